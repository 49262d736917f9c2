/- Texts of our own, joined: the engine, the machine that runs code, and what is known of the functions. -/
import Derived.Test.YtflehenfikoniaaGreatRows
import Derived.WalkKit
import Derived.Deep.Quiet
import Derived.ProofKit
import Derived.Laws.StructEq
import Derived.LaidEql
import Derived.Laws.BytesArg
import Derived.Maps.RangeRun
import Derived.RangeFuncSeq
import Derived.Scope
import Derived.Laws.Strings
import Derived.Laws.Strings2
import Derived.Below
import Derived.Carry
import Derived.OpenShut
import Derived.ChangeMaps5
import Derived.Deep.Slices
import Derived.Deep.SlicePairs
import Derived.SizedLaws
import Derived.Laws.BitsAllLaws
import Derived.RangeFuncRecord
import Derived.Test.YtflehenfikoniaaGreatJd
set_option linter.unusedSimpArgs false
set_option linter.unusedVariables false
set_option maxHeartbeats 16000000
set_option maxRecDepth 100000
noncomputable section
namespace Go.Proofs.YtflehenfikoniaaGreat
open Go Go.RowKit
def rT (x:Lab):List Lab->List Lab
 | []=> [x]
 |p::r=>if ltL x.1 p.1=true then p::rT x r else x::p::r
def iX (l:List Lab):List Lab:=l.foldl (λr x=>rT x r) []
def cq (l:List Lab):List Lab:=(iX l).reverse
theorem y8(x:Lab):∀r:List Lab,(rT x r).Perm (x::r)
 | []=> .refl _
 |p::r=>by
  unfold rT;split
  ·exact((y8 x r).cons p).trans (.swap x p r)
  ·exact .refl _
theorem qL:∀(l r:List Lab),(l.foldl (λr x=>rT x r) r).Perm (l++r)
 | [],r=> .refl _
 |x::l,r=>(qL l (rT x r)).trans (((y8 x r).append_left l).trans List.perm_middle)
theorem qM(l:List Lab):(cq l).Perm l:=(List.reverse_perm _).trans ((qL l []).trans (by rw[q0w]))
theorem Fx{l:List Lab}{i:Nat}(h:i<l.length):iX (l.take (i+1))=rT l[i] (iX (l.take i)):=by
 unfold iX;rw[X8 h,q2t];rfl
theorem J0(l:List Lab):(iX l).length=l.length:=by
 have:=(qL l []).length_eq;rwa [q0w]at this
theorem DA:∀(L:List Lab) (i:Nat) (y:Lab),i<L.length->ft (cG L) (i*2) [.ss y.1,.ss y.2]=some (cG (L.set i y))
 | [],i,_,h=>by simp at h
 |z::L,0,y,_=>by
  rw[gI];show(ft (.ss z.2::cG L) 0 [.ss y.2]).map _=_;show((ft (cG L) 0 []).map _).map _=_;have:ft (cG L) 0 []=some (cG L):=by unfold ft;cases cG L<;>rfl
  rw[this];rfl
 |z::L,i+1,y,h=>by
  rw[gI,show(i+1)*2=i*2+1+1 by omega];show(ft (.ss z.2::cG L) (i*2+1) _).map _=_;show((ft (cG L) (i*2) _).map _).map _=_;rw[DA L i y (by simpa using h)];rfl
theorem HC{L M:List Lab}{i o:Nat}{y:Lab}(h:i<L.length)(ho:o=i*2)(a:L.set i y=M):ft (cG L) o [.ss y.1,.ss y.2]=some (cG M):=by subst ho a;exact DA L i y h
theorem V9:RTy 28 28 2 32:=⟨_,_,_,rfl,rfl,(λq h=>by cases h),rfl,rfl,rfl,rfl,by decide,by decide⟩
def so0 (L:List Lab) (m:Nat) (i:Nat):AE×AH:=(mkE [(3,.rw 0 0 m 2 0),(9,.si .i64 ((m:Int))),(10,.si .i64 ((i:Int)))],mkH [(0,.cells (cG (L)) true)])
theorem A0{L:List Lab}{m:Nat}{i:Nat}{p n:Nat}{σ:AE}{H:AH}(a:Nat)(o:p<=0)(f:ah H 1 (λb=>if b=0 then a else b) (aj (pa 3) σ) (.rw 0 0 m 2 0))(j:mk (aj (pa 9) σ)= .si .i64 ((m:Int)))(c:mk (aj (pa 10) σ)= .si .i64 ((i:Int)))(k:(∃l,H.get a=some (.cells l true)/\l.map mk=cG (L))∨((L)=[]/\n<=a)):Cov p σ H n ((so0 L m i).1,(so0 L m i).2,1):=
 Cov.ofB (λb=>if b=0 then a else b) (by omega) (λb r=>by repeat' rw[if_neg (by omega)]) ⟨f,.int j,.int c,trivial⟩ ⟨k.elim (λ⟨l,h,g⟩=> .inl ⟨_,h,ao.bA (pD _) (by rw[g,lj]) (λq=>q)⟩) (λh=> .inr ⟨by rw[h.1];rfl,h.2⟩),trivial⟩ rfl (λx d y e=>by simp only[Z4,Z5,or_false]at d e;subst d e;exact λ_=>rfl)
def so1 (L:List Lab) (m:Nat) (i:Nat) (k:Nat):AE×AH:=(mkE [(3,.rw 0 0 m 2 0),(5,.si .i64 ((k:Int))),(9,.si .i64 ((m:Int))),(10,.si .i64 ((i:Int)))],mkH [(0,.cells (cG (L)) true)])
theorem HD{L:List Lab}{m:Nat}{i:Nat}{k:Nat}{p n:Nat}{σ:AE}{H:AH}(a:Nat)(s:p<=0)(f:ah H 1 (λb=>if b=0 then a else b) (aj (pa 3) σ) (.rw 0 0 m 2 0))(j:mk (aj (pa 5) σ)= .si .i64 ((k:Int)))(o:mk (aj (pa 9) σ)= .si .i64 ((m:Int)))(c:mk (aj (pa 10) σ)= .si .i64 ((i:Int)))(r:(∃l,H.get a=some (.cells l true)/\l.map mk=cG (L))∨((L)=[]/\n<=a)):Cov p σ H n ((so1 L m i k).1,(so1 L m i k).2,1):=
 Cov.ofB (λb=>if b=0 then a else b) (by omega) (λb t=>by repeat' rw[if_neg (by omega)]) ⟨f,.int j,.int o,.int c,trivial⟩ ⟨r.elim (λ⟨l,h,g⟩=> .inl ⟨_,h,ao.bA (pD _) (by rw[g,lj]) (λq=>q)⟩) (λh=> .inr ⟨by rw[h.1];rfl,h.2⟩),trivial⟩ rfl (λx d y e=>by simp only[Z4,Z5,or_false]at d e;subst d e;exact λ_=>rfl)
def XE:FuncId->EP:=bb 167 [] evP
theorem Qn:aU XE:=au az (by kernel_rfl) (by kernel_rfl)
def R4(cs:List AV)(v:AV):Prop:=∃l:List Lab,cs=[.fr l.length 2 (cG l)]/\l.length<=1000/\v= .fr l.length 2 (cG (cq l))
theorem Wa:ai 167 (cQ R4):=oQ Qn 4 (by kernel_rfl) λcs v ⟨l,G,N,g⟩=>by
 subst G g;refine⟨rfl,rfl,?_⟩;have m:(0+l.length)*32<=140737488355328:=by omega
 conv=>whnf
 refine bF.grow 2 32 _ _ _ _ _ _ V9 .fr (jT l) (Dx l) .nsl m ?_
 conv=>whnf
 refine aR.mk {i:Nat//i<=l.length} 1 (λi=>so0 ((iX (l.take i.val)).reverse++l.drop i.val) l.length i.val) (λi=>l.length-i.val) ⟨0,X5 _⟩ ?_ ?_
 focus
  exact A0 (L:=(iX (l.take 0)).reverse++l.drop 0) (i:=0) 0 (Z3 0) (.rw (by decide) rfl) (congrArg (AV.si .i64) (by omega)) rfl (.inl ⟨_,rfl,lj l⟩)
 intro⟨i,w⟩;have w:i<=l.length:=w;have D:IntKind.i64.wrap ((i:Int)+1)=((i+1:Nat):Int):=by rw[al (by omega) (by omega)];omega
 conv=>whnf
 refine ae.dec (λh=>?_) (λh=>?_)
 focus
  have g:i<l.length:=q0o.1 h;have b:=J0 (l.take i);rw[Y7,q3k w]at b;have H:(iX (l.take i)).reverse++l.drop i=(iX (l.take i)).reverse++l[i]::([]++l.drop (i+1)):=by rw[q0d g];rfl
  conv=>whnf
  refine aR.mk {t:List Lab×List Lab//t.1.length+t.2.length=i/\t.2.reverse++rT l[i] t.1=iX (l.take (i+1))} 1 (λt=>so1 (t.val.1.reverse++l[i]::(t.val.2++l.drop (i+1))) l.length i t.val.1.length) (λt=>t.val.1.length) ⟨(iX (l.take i),[]),b,(Fx g).symm⟩ ?_ ?_
  focus
   exact HD (k:=(iX (l.take i)).length) 0 (Z3 0) (.rw (by decide) rfl) (congrArg (AV.si .i64) (by rw[b])) rfl rfl (.inl ⟨_,rfl,by rw[H,lj]⟩)
  intro⟨(r,S),j,c⟩;have j:r.length+S.length=i:=j;have c:S.reverse++rT l[i] r=iX (l.take (i+1)):=c;have a:(r.reverse++l[i]::(S++l.drop (i+1))).length=l.length:=by simp only[Z6,List.length_reverse,Z8,q0g];omega
  have done:rT l[i] r=l[i]::r->(iX (l.take (i+1))).reverse++l.drop (i+1)=r.reverse++l[i]::(S++l.drop (i+1)):=λe=>by rw[<-c,e];simp
  cases r with
  |nil=>
   have hd:=done rfl
   conv=>whnf
   refine ae.dec (λz=>absurd (show((0:Nat):Int)>0 from z) (by decide)) (λ_=>?_)
   conv=>whnf
   exact⟨⟨i+1,g⟩,by show l.length-(i+1)<l.length-i;omega,A0 (L:=(iX (l.take (i+1))).reverse++l.drop (i+1)) (i:=i+1) 0 (Z3 0) (.rw (by decide) rfl) rfl (congrArg (AV.si .i64) D) (.inl ⟨_,rfl,by rw[hd,lj]⟩)⟩
  |cons p r=>
   have u:IntKind.i64.wrap (((p::r).length:Int)-1)=((r.length:Nat):Int):=by simp only[Z8]at j⊢;rw[al (by omega) (by omega)];omega
   have x:(p::r).reverse++l[i]::(S++l.drop (i+1))=r.reverse++p::l[i]::(S++l.drop (i+1)):=by simp
   have d:r.length+1<((p::r).reverse++l[i]::(S++l.drop (i+1))).length:=by rw[a];simp only[Z8]at j;omega
   have n:r.length<((p::r).reverse++l[i]::(S++l.drop (i+1))).length:=by omega
   have y:((p::r).reverse++l[i]::(S++l.drop (i+1)))[r.length+1]=l[i]:=by
    rw[List.getElem_append_right (by simp)];simp
   have A:((p::r).reverse++l[i]::(S++l.drop (i+1)))[r.length]=p:=by
    rw[List.getElem_of_eq x,List.getElem_append_right (by simp)];simp
   have E:=xg d (show 0+(r.length+1)*2+0=(r.length+1)*2 by omega);have F:=xg n (show 0+r.length*2+0=r.length*2 by omega);rw[y]at E;rw[A]at F;have s1:=oU d (show 0+(r.length+1)*2=(r.length+1)*2 by omega);have s0:=oU n (show 0+r.length*2=r.length*2 by omega);rw[y]at s1;rw[A]at s0
   have I:ft (cG ((p::r).reverse++l[i]::(S++l.drop (i+1)))) (0+(r.length+1)*2) [.ss p.1,.ss p.2]=some (cG (r.reverse++p::p::(S++l.drop (i+1)))):=HC d (by omega) (by
    rw[x,q3y _ _ (by simp)];simp)
   have J:ft (cG (r.reverse++p::p::(S++l.drop (i+1)))) (0+r.length*2) [.ss l[i].1,.ss l[i].2]=some (cG (r.reverse++l[i]::(p::S++l.drop (i+1)))):=HC (i:=r.length) (by simp only[Z6,List.length_reverse,Z8];omega) (by omega) (by
    rw[q3y _ _ (by simp)];simp)
   have B:r.length+1<l.length:=by simp only[Z8]at j;omega
   have f:r.length<l.length:=by omega
   have o:((p::r).length:Int)>0:=by simp only[Z8];omega
   have C:r.length<(p::r).length:=q1f _;have K:r.length+(p::S).length=i:=by simp only[Z8]at j⊢;omega
   have ins:ltL l[i].1 p.1=true->(p::S).reverse++rT l[i] r=iX (l.take (i+1)):=λz=>by
    rw[<-c];have e:rT l[i] (p::r)=p::rT l[i] r:=if_pos z;rw[e];simp
   have s:ltL l[i].1 p.1=false->rT l[i] (p::r)=l[i]::p::r:=λz=>if_neg (by rw[z];decide)
   have fin:=λz=>done (s z)
   clear x A y done s c
   conv=>whnf
   refine ae.dec (λ_=>?_) (λz=>absurd o z)
   conv=>whnf
   refine Idx.mk (r.length+1) rfl B ?_
   conv=>whnf
   refine aw E ?_
   conv=>whnf
   refine Idx.mk r.length u f ?_
   conv=>whnf
   refine aw F ?_
   conv=>whnf
   refine ae.sb (λz=>?_) (λz=>?_)
   focus
    have q:=ins z
    conv=>whnf
    refine Idx.mk r.length u f ?_
    conv=>whnf
    refine aw s0 ?_
    conv=>whnf
    refine Idx.mk (r.length+1) rfl B ?_
    conv=>whnf
    refine aw s1 ?_
    conv=>whnf
    refine Idx.mk (r.length+1) rfl B ?_
    conv=>whnf
    refine aw I ?_
    conv=>whnf
    refine Idx.mk r.length u f ?_
    conv=>whnf
    refine aw J ?_
    conv=>whnf
    exact⟨⟨(r,p::S),K,q⟩,C,HD (k:=r.length) 0 (Z3 0) (.rw (by decide) rfl) (congrArg (AV.si .i64) u) rfl rfl (.inl ⟨_,rfl,lj _⟩)⟩
   have hd:=fin z
   conv=>whnf
   exact⟨⟨i+1,g⟩,by show l.length-(i+1)<l.length-i;omega,A0 (L:=(iX (l.take (i+1))).reverse++l.drop (i+1)) (i:=i+1) 0 (Z3 0) (.rw (by decide) rfl) rfl (congrArg (AV.si .i64) D) (.inl ⟨_,rfl,by rw[hd,lj]⟩)⟩
 have M:i=l.length:=by have h:¬(i:Int)<(l.length:Int):=h;omega
 have c:(iX (l.take i)).reverse++l.drop i=cq l:=by rw[M,q0e,List.drop_length,q0w];rfl
 have a:(cG (cq l)).length=l.length*2:=by rw[jT,(qM l).length_eq]
 conv=>whnf
 exact dA.row rfl rfl rfl (by rw[c]) a (pD _)
mutual
theorem NC:∀a:AV,ren (λb=>b) a=a
 | .agg l=>congrArg AV.agg (nC l)
 | .tup l=>congrArg AV.tup (nC l)
 | .fn f a c=>by simp only[ren,nC a,nC c]
 | .ptr _ _| .sl _ _ _ _ _| .esl _| .map _| .sy _ _ _ _ _| .rw _ _ _ _ _| .int _ _| .str _| .bool _| .nil| .nsl| .any _| .bad| .si _ _| .sb _| .ss _| .fr _ _ _| .fa _ _=>rfl
theorem nC:∀l:List AV,dM (λb=>b) l=l
 | []=>rfl
 |a::l=>by simp only[dM,NC a,nC l]
end
theorem A3:∀l:List (AV×AV),xY (λb=>b) l=l
 | []=>rfl
 |a::l=>by simp only[xY,NC,A3 l]
theorem HE(o:AO):cJ (λb=>b) o=o:=by
 cases o with
 |cells l z=>exact congrArg (AO.cells · z) (nC l)
 |map es=>exact congrArg AO.map (A3 es)
 |mp es bs cl=>exact congrArg (AO.mp · bs cl) (A3 es)
 |ro l=>exact congrArg AO.ro (nC l)
 |iter b k seen=>rfl
 |sep Q=>rfl
section
variable {K V:Type} [DecidableEq K]
def gy(k:K):List (K×V)->Nat->Option (Nat×V)
 | [],_=>none
 |e::A,i=>if k=e.1 then some (i,e.2)else gy k A (i+1)
def aL(A:List (K×V))(k:K):Option V:=(gy k A 0).map Prod.snd
theorem nD{k:K}:∀{A:List (K×V)} {i:Nat},gy k A i=none->∀e∈A,e.1≠k
 | [],_,_,e,h=>by cases h
 |a::A,i,h,e,b=>by
  unfold gy at h;split at h
  ·cases h
  ·rename_i c;rcases Z4.1 b with rfl|b
   ·exact λq=>c q.symm
   ·exact nD h e b
theorem gz{k:K}:∀{A:List (K×V)} {i j:Nat} {v:V},gy k A i=some (j,v)->i<=j/\A[j-i]?=some (k,v)
 | [],_,_,_,h=>by cases h
 |a::A,i,j,v,h=>by
  unfold gy at h;split at h
  ·rename_i d;injection h with h;injection h with c b;subst c b d;exact⟨Z3 _,by simp⟩
  ·obtain⟨c,b⟩:=gz h;refine⟨by omega,?_⟩;rw[show j-i=(j-(i+1))+1 by omega];simpa using b
theorem cR{A:List (K×V)}{k:K}{v:V}(h:aL A k=some v):(k,v)∈A:=by
 unfold aL at h;rw[Z7]at h;obtain⟨⟨i,u⟩,a,rfl⟩:=h;exact q0c (gz a).2
theorem tj{A:List (K×V)}{k:K}(h:aL A k=none):∀e∈A,e.1≠k:=by
 unfold aL at h;rw[Option.map_eq_none_iff]at h;exact nD h
theorem eI{A:List (K×V)}{k:K}{v:V}(hn:(A.map Prod.fst).Nodup)(h:(k,v)∈A):aL A k=some v:=by
 cases e:aL A k with
 |none=>exact absurd rfl (tj e _ h)
 |some u=>
  have f:=cR e;obtain⟨i,l,b⟩:=q2u h;obtain⟨j,m,a⟩:=q2u f;have:i=j:=(List.getElem_inj (xs:=A.map Prod.fst) (h₀:=by simpa using l) (h₁:=by simpa using m) hn).1 (by simp[b,a]);subst this;rw[b]at a;injection a with _ a;rw[a]
structure MpC (K V:Type)where
 A:List (K×V)
 bs:List Nat
 cl:Nat
structure MpC.Ok(m:MpC K V):Prop where
 len:m.bs.length=m.A.length
 nd:m.bs.Nodup
 lt:∀x∈m.bs,x<m.cl
 key:(m.A.map Prod.fst).Nodup
def MpC.no:MpC K V:=⟨[],[],0⟩
def MpC.put(m:MpC K V)(k:K)(v:V):MpC K V:=match gy k m.A 0 with
 |none=>⟨m.A++ [(k,v)],m.bs++ [m.cl],m.cl+1⟩
 |some (i,_)=>⟨m.A.set i (k,v),m.bs,m.cl⟩
def MpC.del(m:MpC K V)(k:K):MpC K V:=match gy k m.A 0 with
 |none=>m
 |some (i,_)=>⟨m.A.eraseIdx i,m.bs.eraseIdx i,m.cl⟩
theorem MpC.Ok.put{m:MpC K V}(h:m.Ok)(k:K)(v:V):(m.put k v).Ok:=by
 unfold MpC.put;split
 ·rename_i e;refine⟨by simp[h.len],?_,λx a=>?_,?_⟩
  ·rw[q3l];exact⟨h.nd,by simp,λx a y b=>by have:=h.lt x a;simp at b;subst b;show x≠m.cl;omega⟩
  ·rcases q0x.1 a with a|a
   ·have:=h.lt x a;show x<m.cl+1;omega
   ·simp at a;subst a;exact q1f _
  ·rw[q0k,q3l];refine⟨h.key,by simp,λx a y b=>?_⟩;simp at b;subst b;obtain⟨z,d,rfl⟩:=q0m.1 a;exact nD e z d
 ·rename_i i u e;refine⟨by simp[h.len],h.nd,h.lt,?_⟩;have c:=(gz e).2;rw[q3c]at c
  have:(m.A.set i (k,v)).map Prod.fst=m.A.map Prod.fst:=by
   rw[List.map_set];obtain⟨l,f⟩:=X6.1 c;apply List.ext_getElem (by simp);intro j n o;rw[List.getElem_set];split
   ·rename_i q;subst q;simp[f]
   ·rfl
  show((m.A.set i (k,v)).map Prod.fst).Nodup;rw[this];exact h.key
theorem MpC.Ok.del{m:MpC K V}(h:m.Ok)(k:K):(m.del k).Ok:=by
 unfold MpC.del;split
 ·exact h
 ·rename_i i u e;refine⟨?_,h.nd.sublist (q3z _ _),λx a=>h.lt x ((q3z _ _).subset a),?_⟩
  ·show(m.bs.eraseIdx i).length=(m.A.eraseIdx i).length;rw[List.length_eraseIdx,List.length_eraseIdx,h.len]
  ·show((m.A.eraseIdx i).map Prod.fst).Nodup;exact h.key.sublist ((q3z _ _).map _)
theorem rU{m:MpC K V}{k:K}{v:V}{e:K×V}(h:e∈(m.put k v).A):e=(k,v)∨e∈m.A:=by
 unfold MpC.put at h;split at h
 ·rcases q0x.1 h with h|h
  ·exact .inr h
  ·simp at h;exact .inl h
 ·exact(List.mem_or_eq_of_mem_set h).symm
theorem A4{m:MpC K V}{k:K}{e:K×V}(h:e∈(m.del k).A):e∈m.A:=by
 unfold MpC.del at h;split at h
 ·exact h
 ·exact(q3z _ _).subset h
theorem xh{m:MpC K V}(h:m.Ok)(k:K)(v:V)(x:K):aL (m.put k v).A x=if x=k then some v else aL m.A x:=by
 have d:=(h.put k v).key
 have b7:∀e∈m.A,e.1≠k->e∈(m.put k v).A:=λe f l=>by
  unfold MpC.put;split
  ·exact q1w _ f
  ·rename_i i u b;obtain⟨j,n,o⟩:=q2u f;have a:=(gz b).2;rw[q3c]at a
   have c:i≠j:=λq=>by
    subst q;rw[X4 n,o]at a;injection a with a;rw[a]at l;exact l rfl
   show e∈m.A.set i (k,v);rw[<-o];exact q1k.2 ⟨j,by simpa using n,by rw[List.getElem_set_ne c]⟩
 have new:(k,v)∈(m.put k v).A:=by
  unfold MpC.put;split
  ·simp
  ·rename_i i u b;have a:=(gz b).2;rw[q3c]at a;obtain⟨r,_⟩:=X6.1 a;exact q1k.2 ⟨i,by simpa using r,by simp⟩
 split
 ·rename_i e;subst e;exact eI d new
 ·rename_i p;cases e:aL m.A x with
  |some u=>exact eI d (b7 _ (cR e) p)
  |none=>
   cases b:aL (m.put k v).A x with
   |none=>rfl
   |some w=>
    rcases rU (cR b)with q|q
    ·injection q with q _;exact absurd q p
    ·exact absurd rfl (tj e _ q)
theorem DC{m:MpC K V}(h:m.Ok)(k x:K):aL (m.del k).A x=if x=k then none else aL m.A x:=by
 have r:=(h.del k).key;split
 ·rename_i e;subst e;cases b:aL (m.del x).A x with
  |none=>rfl
  |some u=>
   have c:=cR b;unfold MpC.del at c;split at c
   ·rename_i e;exact absurd rfl (nD e _ c)
   ·rename_i i w e;have a:=(gz e).2;rw[q3c]at a;obtain⟨s,t⟩:=X6.1 a;obtain⟨j,d,f⟩:=List.mem_eraseIdx_iff_getElem.1 c;have:i=j:=(List.getElem_inj (xs:=m.A.map Prod.fst) (h₀:=by simpa using s) (h₁:=by simpa using d) h.key).1 (by simp[t,f.2]);exact absurd this.symm f.1
 ·rename_i v;cases e:aL m.A x with
  |some u=>
   refine eI r ?_;have o:=cR e;unfold MpC.del;split
   ·exact o
   ·rename_i i w b;have a:=(gz b).2;rw[q3c]at a;obtain⟨j,d,p⟩:=q2u o;refine List.mem_eraseIdx_iff_getElem.2 ⟨j,d,λq=>?_,p⟩;subst q;rw[X4 d,p]at a;injection a with a;injection a with a;exact v a
  |none=>
   cases b:aL (m.del k).A x with
   |none=>rfl
   |some w=>exact absurd rfl (tj e _ (A4 (cR b)))
end
theorem MpC.DD{K V:Type}:(MpC.no:MpC K V).Ok:=⟨rfl,.nil,λx h=>(by cases h),.nil⟩
section
variable {K V:Type} [DecidableEq K] {kA:K->AV} {g:V->AV} {kd:TypeDesc}
def jq(kA:K->AV)(g:V->AV)(A:List (K×V)):List (AV×AV):=A.map λe=>(kA e.1,g e.2)
def MpC.O(kA:K->AV)(g:V->AV)(m:MpC K V):AO:= .mp (jq kA g m.A) m.bs m.cl
structure xi(kA:K->AV)(kd:TypeDesc):Prop where
 same:∀a b,BQ kd (kA a) (kA b)=some (decide (a=b))
 ok:∀a,zG kd (kA a)=true
theorem pE(a:xi kA kd)(k:K):∀(A:List (K×V)) (i:Nat),me kd (kA k) (jq kA g A) i=some ((gy k A i).map λr=>(r.1,g r.2))
 | [],i=>by
  show(match zG kd (kA k)with|true=>some none|false=>none)=_;rw[a.ok];rfl
 |e::A,i=>by
  show(match BQ kd (kA k) (kA e.1)with|some true=>some (some (i,g e.2))|some false=>me kd (kA k) (jq kA g A) (i+1)|none=>none)=_;rw[a.same];unfold gy;by_cases q:k=e.1
  ·rw[if_pos q,decide_eq_true q];rfl
  ·rw[if_neg q,decide_eq_false q];exact pE a k A (i+1)
def lkV(ok:Bool)(z:AV)(r:Option AV):AV:=match ok,r with
 |true,some v=> .tup [v,.bool true]
 |false,some v=>v
 |true,none=> .tup [z,.bool false]
 |false,none=>z
theorem Qo{P:Program}{t c a:TypeId}{H:AH}{b:Nat}{m:MpC K V}{k:K}{ok:Bool}{z:Value}{x y:AV}(d:xi kA kd)(e:dK P t=some (c,kd,a))(f:x= .map b)(h:y=kA k)(i:H.get b=some (m.O kA g))(j:cS P a=some z):jw P t x y ok H=some (lkV ok (ofV z) ((aL m.A k).map g)):=by
 subst f h;unfold jw;rw[e];dsimp only;rw[i];show sI P kd a (kA k) ok (jq kA g m.A)=_;unfold sI;rw[pE d];unfold aL;cases gy k m.A 0 with
 |none=>simp only[q2e,j];cases ok<;>rfl
 |some r=>cases ok<;>rfl
theorem xj{P:Program}{t a c:TypeId}{H:AH}{n b:Nat}{m:MpC K V}{k:K}{v:V}{x y u:AV}(d:xi kA kd)(f:dK P t=some (a,kd,c))(j:x= .map b)(l:y=kA k)(o:u=g v)(p:H.get b=some (m.O kA g)):lB P t x y u H n=some (cT,H.set (some ((m.put k v).O kA g)) aa b,n):=by
 subst j l o;unfold lB;rw[f];dsimp only;rw[p];show(match me kd (kA k) (jq kA g m.A) 0 with|some none=>_|some (some y)=>_|none=>none)=_;rw[pE d]
 have q:∀A:List (K×V),lA (kA k) (g v) (jq kA g A) none=jq kA g (A++ [(k,v)]):=λA=>by
  have:lA (kA k) (g v) (jq kA g A) none=jq kA g A++ [(kA k,g v)]:=by cases A<;>rfl
  rw[this];unfold jq;rw[q0k];rfl
 have s:∀(A:List (K×V)) (i:Nat) (w:AV),lA (kA k) (g v) (jq kA g A) (some (i,w))=jq kA g (A.set i (k,v)):=λA=>by
  induction A with
  |nil=>intro i w;rfl
  |cons e A z=>
   intro i w;cases i with
   |zero=>rfl
   |succ i=>show _::lA (kA k) (g v) (jq kA g A) (some (i,w))=_;rw[z];rfl
 unfold MpC.put;cases h:gy k m.A 0 with
 |none=>simp only[q2e,q];rfl
 |some r=>obtain⟨i,w⟩:=r;simp only[Y8,s];rfl
theorem tk{P:Program}{t a c:TypeId}{H:AH}{n b:Nat}{m:MpC K V}{k:K}{x y:AV}(d:xi kA kd)(e:dK P t=some (a,kd,c))(f:x= .map b)(j:y=kA k)(l:H.get b=some (m.O kA g)):Es P t x y H n=some (.tup [],H.set (some ((m.del k).O kA g)) aa b,n):=by
 subst f j;unfold Es;rw[e];dsimp only;rw[l];show(match me kd (kA k) (jq kA g m.A) 0 with|some none=>_|some (some (i,_))=>_|none=>none)=_;rw[pE d];unfold MpC.del;cases h:gy k m.A 0 with
 |none=>rfl
 |some r=>
  obtain⟨i,w⟩:=r;show some (AV.tup [],H.set (some (AO.mp ((jq kA g m.A).eraseIdx i) (m.bs.eraseIdx i) m.cl)) aa b,n)=_;unfold jq;rw[<-sR];rfl
end
section
variable {K V:Type} {kA:K->AV} {g:V->AV}
theorem bl{m:MpC K V}{j:Nat}(a:∀k,ltV j (kA k)=true)(b:∀v,ltV j (g v)=true):ltO j (m.O kA g)=true:=by
 show ltE j (jq kA g m.A)=true;unfold jq
 induction m.A with
 |nil=>rfl
 |cons e A c=>show(ltV j (kA e.1)&&(ltV j (g e.2)&&ltE j (jq kA g A)))=true;rw[a,b];exact c
theorem uQ{A:List (K×V)}{i:Nat}{e:AV×AV}(h:(jq kA g A)[i]?=some e):∃f:i<A.length,e=(kA A[i].1,g A[i].2):=by
 unfold jq at h;rw[q0q,Z7]at h;obtain⟨x,a,b⟩:=h;obtain⟨c,d⟩:=X6.1 a;subst d;exact⟨c,b.symm⟩
theorem ao.ND{H:AH}{j:Nat}{r:Nat->Nat}:ao H j r (.map []) ((MpC.no:MpC K V).O kA g):=⟨⟨rfl,rfl⟩,λe f p h _ _ ⟨ms,cl,b,a,c⟩=>by
 have a:ms.toList=[]:=a;have d:cl=0:=by rw[c.1,a];rfl
 subst d;exact⟨ms,b,a,by rw[a];rfl⟩⟩
end
def kT(s:Tx):AV:= .str s
def kL(y:Lab):AV:= .agg [.str y.1,.str y.2]
theorem bQ:xi kT .string:=⟨λa b=>congrArg some (by rw[q2j,bj,decide_eq_true_eq]),λ_=>rfl⟩
theorem HF{c:Array Field}(h:kf c=[(1,0),(1,1)]):xi kL (.struct c):=by
 have e:∀a b:Lab,(dw a.1 b.1&&(dw a.2 b.2&&true))=decide (a=b):=λa b=>by
  rw[q2j,Z9,Z9,bj,bj,decide_eq_true_eq,Prod.ext_iff];simp
 refine⟨λa b=>?_,λa=>?_⟩
 ·show(match jD [AV.str a.1,.str a.2] [.str b.1,.str b.2] (kf c),vm [AV.str a.1,.str a.2] [.str b.1,.str b.2]with|some p,some q=>if p=q then some q else none|_,_=>none)=_;rw[h];show(if(dw a.1 b.1&&(dw a.2 b.2&&true))=(dw a.1 b.1&&(dw a.2 b.2&&true))then some (dw a.1 b.1&&(dw a.2 b.2&&true))else none)=_;rw[if_pos rfl,e]
 ·show(jD [AV.str a.1,.str a.2] [.str a.1,.str a.2] (kf c)).isSome=true;rw[h];rfl
theorem Re.opt{H:AH}{n k:Nat}{a:Type}{g:List a->AV}(b:g []= .fr 0 k [])(r:Option (List a)):Re H n (lkV false .nsl (r.map g)) H (g (r.getD [])):=by
 cases r with
 |none=>show Re H n .nsl H (g []);rw[b];exact .nsl
 |some v=>exact .same
def iC{X C:Type}(k:Nat)(B:Obj X C)(R:X->List AV->X->AV->Prop)(args:List AV)(H:AH)(n:Nat)(κ:PK):Prop:=match args with
 |a::f=>∃x cs d v b c,a= .ptr 0 0/\k<=n/\Res H n f b cs/\B.ok x c/\(∀i o,(B.O c)[i]?=some o->b.get i=some o)/\R x cs d v/\∀e,B.ok d e->κ v (rP (B.O e) 0 b) n
 |_=>False
theorem xm {X C:Type} {f:FuncId} {run:List AV->AH->Nat->PK->Prop} (A:ai f run) (I:bM Tryz.prog f=true) (B:Obj X C) {k:Nat} (hk:B.k=k) (hk9:k<1000) {R:X->List AV->X->AV->Prop}
 (h:∀x cs l v,R x cs l v->cs.all ga=true/\ga v=true/\∀c,B.ok x c->run (.ptr 0 0::cs) (mkH (bH (B.O c) 0)) k (gi B l v)):ai f (iC k B R):=λargs H n κ F φ J L vs K M p P=>by
 unfold iC at F;split at F
 ·rename_i a ar;obtain⟨x,cs,l,v,T,c,rfl,hkn,D,hc,U,hR,W⟩:=F;obtain⟨w1,Y,q1,e1,r1⟩:=p.cons_inv;subst hk;obtain⟨Z,l1,hr1,ha1⟩:=D φ J L Y M r1;obtain⟨s1,s2,s3⟩:=h x cs l v hR;have t:=s3 c hc;have E:∀{o:AO} {N:Nat},ltO B.k o=true->cJ (bt (lr 0 B.k) N) o=o:=λ{o N} ho=>(il (r':=λb=>b) (m:=B.k) (λj hj=>(nA hj).trans (q0s j)) ho).trans (HE o)
  have wD:iS T n (lr 0 B.k) (B.O c):=⟨qI _ _,by rw[dq,B.len],λi s o h1 h2=>by
   obtain⟨h3,rfl⟩:=rR h1;obtain⟨_,h4,h5⟩:=B.lt c h2;refine⟨by omega,?_,.inr h4⟩;rw[q0s,U i o h2,E h5]⟩
  refine dj (S:=lr 0 B.k) (O:=B.O c) (args0:= .ptr 0 0::cs) (κ:=λv2 H2 n2=>v2=v/\n2=n/\∃d,B.ok l d/\H2=rP (B.O d) 0 T) A.m I hr1 wD ?_ ?_ (Q:=λv' H' m=>v'=v/\m=B.k/\∃d,B.ok l d/\H'=mkH (bH (B.O d) 0)) ?_ λu H' n' hq=>?_
  ·rw[q1];refine .cons ?_ ?_
   ·show VR Z (.ptr (bt (lr 0 B.k) n 0) 0) w1;rw[nA (B.k0 c)];exact VR.mono l1 _ _ e1
   ·rw[kH s1];exact ha1
  ·intro χ v2 H2 n2 u g hle hg hu ⟨f1,f2,d,f3,f4⟩;subst f1 f2 f4;exact P χ _ _ _ u g (l1.trans hle) hg hu (W d f3)
  ·refine⟨gi B l v,by rw[dq];exact t,λu H' n' ⟨H2,d,g1,g2,g3⟩=>⟨v,mkH (bH (B.O d) 0),B.k,λχ J L w M hu=>?_,rfl,rfl,d,g2,rfl⟩⟩;obtain⟨ψ1,m1,hr3,hu3⟩:=g1 χ J L w M hu;obtain⟨ψ2,G,hr4⟩:=AY hr3 g3 (by rw[B.len];exact Z3 _);rw[dq];exact⟨ψ2,⟨λy q hy e=>G.1 y q hy (m1.b y q e),λq e=>G.2.1 q (m1.z q e),λq e=>m1.y q (G.2.2 q e)⟩,hr4,nz G.2.1 s2 hu3⟩
  ·obtain⟨g1,g2,d,g3,g4⟩:=hq;subst g1 g2 g4;refine⟨B.k,rP (B.O d) 0 T,by rw[dq];exact Z3 _,λy o hy=>?_,(iT (r:=λb=>b) s2).2,(iT (m:=0) s2).1,by rw[dq];omega,d,g3,rfl⟩;rcases mC hy with⟨i,rfl,i1⟩|⟨i2,i3⟩
   ·obtain⟨j1,j2,j3⟩:=B.lt d i1;have:=rQ (k:=0) (by rw[B.len];omega) i1;rw[q0s]at this⊢;exact .inl ⟨i,o,j1,by rw[nA j1,q0s],this,j2,j3,(E j3).symm⟩
   ·rw[B.len]at i2;exact .inr ⟨by rw[dq];omega,i3,λq=>by have:=jR q;omega⟩
 ·exact F.elim
section
variable {K V:Type} [DecidableEq K]
def gP(A:List (K×V))(k:K)(v:V):List (K×V):=match gy k A 0 with
 |none=>A++ [(k,v)]
 |some (i,_)=>A.set i (k,v)
def dt(A:List (K×V))(k:K):List (K×V):=match gy k A 0 with
 |none=>A
 |some (i,_)=>A.eraseIdx i
theorem HG(m:MpC K V)(k:K)(v:V):(m.put k v).A=gP m.A k v:=by unfold MpC.put gP;split<;>simp_all
theorem xn(m:MpC K V)(k:K):(m.del k).A=dt m.A k:=by unfold MpC.del dt;split<;>simp_all
theorem tm{A:List (K×V)}{k:K}(h:aL A k=none):dt A k=A:=by
 unfold aL at h;rw[Option.map_eq_none_iff]at h;unfold dt;rw[h]
theorem aZ{kA:K->AV}{g:V->AV}{a:TypeDesc}{P:Program}{t d c:TypeId}{H:AH}{b:Nat}{m:MpC K V}{k:K}{ok:Bool}{z:Value}{x y:AV}{r:Option V}(e:xi kA a)(f:dK P t=some (d,a,c))(h:x= .map b)(i:y=kA k)(j:H.get b=some (m.O kA g))(l:cS P c=some z)(n:aL m.A k=r):jw P t x y ok H=some (lkV ok (ofV z) (r.map g)):=by subst n;exact Qo e f h i j l
end
theorem lQ:∀(A B:List Tx),(bu false A B).length<=A.length
 | [],B=>by rw[gu];simp
 |a::A,[]=>by rw[gv];simp
 |a::A,b::B=>by
  by_cases h:leS a b=true
  ·by_cases k:leS b a=true
   ·have:=lQ A B;rw[mG A B h k];simp only[q1u,if_false,q2i,Z8];omega
   ·have:=lQ A (b::B);rw[mF A B h k];simp only[Z8];omega
  ·have:=lQ (a::A) B;rw[mH A B h];simpa using this
termination_by A B=>A.length+B.length
theorem HH(V:List Tx)(s:Tx):(AZ V s).length<=V.length:=X9 (lQ _ _) (dh V)
def gL(l:List Lab):AV:= .fr l.length 2 (cG l)
def gS(V:List Tx):AV:= .fr V.length 1 (strs V)
structure Ix where
 A:List (Tx×List Lab)
 w:Nat
abbrev IxC:=MpC Tx (List Lab)×MpC Lab (List Tx)×MpC Tx (List Tx)
def ixO(c:IxC):List AO:=[.cells [.map 1,.map 2,.map 3] true,c.1.O kT gL,c.2.1.O kL gS,c.2.2.O kT gS]
def Rows{K:Type}(m:MpC K (List Tx))(w:Nat):Prop:=∀e∈m.A,e.2.length<=w
structure NF(x:Ix)(c:IxC):Prop where
 A:c.1.A=x.A
 o1:c.1.Ok
 o2:c.2.1.Ok
 o3:c.2.2.Ok
 r2:Rows c.2.1 x.w
 r3:Rows c.2.2 x.w
 lab:∀e∈x.A,iE e.1=true/\dS e.2=true
theorem dQ{j:Nat}(k:Tx):ltV j (kT k)=true:=rfl
theorem DE{j:Nat}(k:Lab):ltV j (kL k)=true:=rfl
theorem DF{j:Nat}(l:List Lab):ltV j (gL l)=true:=rfl
theorem nP{j:Nat}(V:List Tx):ltV j (gS V)=true:=rfl
def IxB:Obj Ix IxC where
 ok:=NF
 O:=ixO
 k:=4
 len _:=rfl
 own c o h:=by
  simp only[ixO,Z4,Z5,or_false]at h;rcases h with rfl|rfl|rfl|rfl
  ·exact⟨rfl,rfl⟩
  ·exact⟨rfl,bl dQ DF⟩
  ·exact⟨rfl,bl DE nP⟩
  ·exact⟨rfl,bl dQ nP⟩
 pos c:=⟨_,_,_,rfl⟩
theorem rV{H:AH}{c:IxC}(a:H.get 0=some (.cells [.map 1,.map 2,.map 3] true))(b:H.get 1=some (c.1.O kT gL))(d:H.get 2=some (c.2.1.O kL gS))(e:H.get 3=some (c.2.2.O kT gS)):x0 H 4 (ixO c) 0:=
 ⟨⟨_,a,.refl rfl⟩,⟨_,b,.refl (bl dQ DF)⟩,⟨_,d,.refl (bl DE nP)⟩,⟨_,e,.refl (bl dQ nP)⟩,trivial⟩
theorem mkA:dK Tryz.prog 162=some (9,.string,28):=by kernel_rfl
theorem mkN:dK Tryz.prog 164=some (9,.string,58):=by kernel_rfl
theorem mkL:∃a,dK Tryz.prog 163=some (100,.struct a,58)/\kf a=[(1,0),(1,1)]:=⟨Tryz.prog.fieldsOf 100,by kernel_rfl,by kernel_rfl⟩
theorem Fy:cS Tryz.prog 28=some (.slice none 0 0):=by kernel_rfl
theorem zTx:cS Tryz.prog 58=some (.slice none 0 0):=by kernel_rfl
section
variable {K:Type} [DecidableEq K] {m:MpC K (List Tx)} {w:Nat}
theorem Rows.get(h:Rows m w)(k:K):((aL m.A k).getD []).length<=w:=by
 cases e:aL m.A k with
 |none=>simp
 |some V=>exact h _ (cR e)
theorem Rows.put(h:Rows m w){k:K}{V:List Tx}(b:V.length<=w):Rows (m.put k V) w:=λe a=>by
 rcases rU a with rfl|a
 ·exact b
 ·exact h e a
theorem Rows.del(h:Rows m w){k:K}:Rows (m.del k) w:=λe a=>h e (A4 a)
end
theorem Rows.le{K:Type}{m:MpC K (List Tx)}{w:Nat}(h:Rows m w){w':Nat}(a:w<=w'):Rows m w':=λe b=>X9 (h e b) a
def nW{K:Type} [DecidableEq K](m:MpC K (List Tx))(k:K)(V:List Tx):MpC K (List Tx):=if V.length=0 then m.del k else m.put k V
theorem uR{K:Type} [DecidableEq K]{m:MpC K (List Tx)}{w:Nat}{k:K}{V:List Tx}(h:m.Ok)(a:Rows m w)(b:V.length<=w):(nW m k V).Ok/\Rows (nW m k V) w:=by
 unfold nW;split
 ·exact⟨h.del k,a.del⟩
 ·exact⟨h.put k V,a.put b⟩
def y9{K:Type} [DecidableEq K](kA a:K->AV)(args:List AV)(H:AH)(n:Nat)(κ:PK):Prop:=match args with
 | [x,y,z]=>∃(b:Nat) (m:MpC K (List Tx)) (k:K) (V:List Tx),x= .map b/\b<n/\n<900000/\y=a k/\z=gS V/\H.get b=some (m.O kA gS)/\κ (.tup []) (H.set (some ((nW m k V).O kA gS)) aa b) n
 |_=>False
theorem NG {K:Type} [DecidableEq K] {kA g:K->AV} (E:∀k,ga (g k)=true) (C:∀k j,ltV j (kA k)=true) {f:FuncId} {run:List AV->AH->Nat->PK->Prop} (p:ai f run) (y:bM Tryz.prog f=true)
 (h:∀(m:MpC K (List Tx)) (k:K) (V:List Tx),run [.map 0,g k,gS V] (mkH [(0,m.O kA gS)]) 1 λu H' _=>u= .tup []/\H'.get 0=some ((nW m k V).O kA gS)):ai f (y9 kA g):=λargs H n D v P Q R T K F d G=>by
 unfold y9 at v;split at v
 ·obtain⟨b,m,k,V,rfl,z,U,rfl,rfl,I,A⟩:=v
  have t:∀{o:AO} {r:Nat->Nat},(∃m:MpC _ (List Tx),o=m.O kA gS)->cJ r o=o:=λ{o r} ⟨m,e⟩=>by
   subst e;exact(il (m:=0) (λc J=>absurd J (q0f c)) (bl (λk=>C k 0) nP)).trans (HE _)
  refine dj (S:=[b]) (O:=[m.O kA gS]) (args0:=[.map 0,g k,gS V]) (κ:=D) p y F ⟨by simp,rfl,λi s o l a=>?_⟩ ?_ G (h m k V) λu H' W ⟨L,M⟩=>?_
  ·cases i with
   |zero=>injection l with l;injection a with a;subst l a;exact⟨z,I.trans (congrArg some (t ⟨m,rfl⟩).symm),.inr rfl⟩
   |succ i=>simp at l
  ·have e:dM (bt [b] n) [.map 0,g k,gS V]=[.map b,g k,gS V]:=by simp only[dM,(iT (m:=0) (E k)).1];rfl
   rw[e];exact d
  ·subst L;refine⟨1,H.set (some ((nW m k V).O kA gS)) aa b,Z3 1,λx o N=>?_,rfl,A⟩;rcases PM.ak aa H b x o N with⟨rfl,a⟩|⟨l,a⟩
   ·injection a with a;subst a;exact .inl ⟨0,_,Nat.zero_lt_one,rfl,M,rfl,bl (λk=>C k 1) nP,(t ⟨_,rfl⟩).symm⟩
   ·exact .inr ⟨by simp;omega,a,λq=>absurd (by simpa using q) l⟩
 ·exact v.elim
def kTs(s:Tx):AV:= .ss s
def kLs(y:Lab):AV:= .agg [.ss y.1,.ss y.2]
theorem HI{K:Type} [DecidableEq K]{m:MpC K (List Tx)}{k:K}{V:List Tx}{kA:K->AV}:((V.length:Int)=0->(m.del k).O kA gS=(nW m k V).O kA gS)/\(¬(V.length:Int)=0->(m.put k V).O kA gS=(nW m k V).O kA gS):=
 ⟨λh=>by unfold nW;rw[if_pos (by omega)],λh=>by unfold nW;rw[if_neg (by omega)]⟩
theorem T9:ai 127 (y9 kT kTs):=NG (λ_=>rfl) (λ_ _=>rfl) (ay az 3 _) (by kernel_rfl) λm k V=>by
 have q:=HI (m:=m) (k:=k) (V:=V) (kA:=kT)
 conv=>whnf
 refine ae.dec (λz=>?_) (λz=>?_)
 ·have e:=q.1 z
  conv=>whnf
  refine Ask.mk _ (tk (m:=m) (g:=gS) bQ mkN rfl rfl rfl) ?_
  conv=>whnf
  exact⟨rfl,congrArg some e⟩
 ·have e:=q.2 z
  conv=>whnf
  refine Ask.mk _ (xj (m:=m) (g:=gS) bQ mkN rfl rfl rfl rfl) ?_
  conv=>whnf
  exact⟨rfl,congrArg some e⟩
theorem Ua:ai 125 (y9 kL kLs):=NG (λ_=>rfl) (λ_ _=>rfl) (ay az 3 _) (by kernel_rfl) λm k V=>by
 have q:=HI (m:=m) (k:=k) (V:=V) (kA:=kL);obtain⟨d,a,b⟩:=mkL
 conv=>whnf
 refine ae.dec (λz=>?_) (λz=>?_)
 ·have e:=q.1 z
  conv=>whnf
  refine Ask.mk _ (tk (m:=m) (g:=gS) (HF b) a rfl rfl rfl) ?_
  conv=>whnf
  exact⟨rfl,congrArg some e⟩
 ·have e:=q.2 z
  conv=>whnf
  refine Ask.mk _ (xj (m:=m) (g:=gS) (HF b) a rfl rfl rfl rfl) ?_
  conv=>whnf
  exact⟨rfl,congrArg some e⟩
def ixD (k:Tx) (l:List Lab) (i:Nat) (c:IxC):AE×AH:=(mkE [(0,.ptr 0 (0)),(1,.ss (k)),(16,.fr l.length 2 (cG l)),(17,.si .i64 ((l.length:Int))),(18,.si .i64 ((i:Int)))],mkH [(0,.cells [.map 1,.map 2,.map 3] true),(1,c.1.O kT gL),(2,c.2.1.O kL gS),(3,c.2.2.O kT gS)])
theorem HJ{k:Tx}{l:List Lab}{i:Nat}{c:IxC}{p n:Nat}{σ:AE}{H:AH}(e:p<=4)(f:aj (pa 0) σ= .ptr 0 (0))(g:mk (aj (pa 1) σ)= .ss (k))(a:aj (pa 16) σ= .fr l.length 2 (cG l))(b:mk (aj (pa 17) σ)= .si .i64 ((l.length:Int)))(d:mk (aj (pa 18) σ)= .si .i64 ((i:Int)))(h:H.get 0=some (.cells [.map 1,.map 2,.map 3] true))(j:H.get 1=some (c.1.O kT gL))(o:H.get 2=some (c.2.1.O kL gS))(q:H.get 3=some (c.2.2.O kT gS)):Cov p σ H n ((ixD k l i c).1,(ixD k l i c).2,4):=
 Cov.ofA e ⟨.ptr (by decide) f,.str g,ah.frE a,.int b,.int d,trivial⟩ ⟨.inl ⟨_,h,ao.refl rfl⟩,.inl ⟨_,j,ao.refl (bl dQ DF)⟩,.inl ⟨_,o,ao.refl (bl DE nP)⟩,.inl ⟨_,q,ao.refl (bl dQ nP)⟩,trivial⟩ rfl
def NH:DT:=[(6,[(some 0,[0]),(some 0,[22]),(some 0,[23]),(some 0,[24]),(some 0,[6]),(some 0,[0]),(some 0,[27]),(some 0,[28]),(some 0,[29]),(some 0,[6]),(some 0,[30,31]),(some 0,[1]),(none,[32,33])]),
 (7,[(some 0,[0]),(some 0,[36]),(some 0,[37]),(some 0,[38]),(some 0,[6]),(some 0,[40]),(some 0,[0]),(some 0,[42]),(some 0,[43]),(some 0,[44]),(some 0,[6]),(some 0,[46]),(some 0,[45,47]),(some 0,[1]),(none,[48,49])])]
def KIx:FuncId->EP:=cf 166 (ub T5) (cf 126 (ub V5) (cf 167 (ub R4) (aq 105 (cQ Dy) (aq 106 (cQ T7) (aq 124 (cQ T6) (aq 127 (y9 kT kTs) (aq 125 (y9 kL kLs) evP)))))))
theorem FD:aU KIx:=aO (aO (aO (ag (ag (ag (ag (ag az Ua) T9) R3) V8) HA) Wa.cs (w9 _)) XB.cs (w9 _)) V6.cs (w9 _)
def KId:FuncId->EP:=bb 68 NH KIx
theorem NI:aU KId:=au FD (by kernel_rfl) (by kernel_rfl)
def Qp(x:Ix)(cs:List AV)(a:Ix)(v:AV):Prop:=∃k,cs=[.ss k]/\x.w<900000/\a=⟨dt x.A k,x.w⟩/\v= .sb (aL x.A k).isSome
theorem xo(x:Ix)(k:Tx)(c:IxC)(G:NF x c)(o:x.w<900000):ax KId 5 68 [.ptr 0 0,.ss k] (mkH (bH (ixO c) 0)) 4 (gi IxB ⟨dt x.A k,x.w⟩ (.sb (aL x.A k).isSome)):=by
 obtain⟨T,H,I⟩:=mkL;obtain⟨v,z,B,C,p,r,f⟩:=G;obtain⟨A,w⟩:=x;dsimp only at v p r f o⊢;subst v;cases d:aL c.1.A k with
 |none=>
  have e:=tm d;have q:gi IxB ⟨dt c.1.A k,w⟩ (.sb false) (.bool false) (mkH (bH (ixO c) 0)) 4:=⟨_,c,.told rfl,⟨e.symm,z,B,C,p,r,by rw[e];exact f⟩,rV rfl rfl rfl rfl⟩
  conv=>whnf
  refine Ask.mk _ (aZ bQ mkA rfl rfl rfl Fy d) ?_
  conv=>whnf
  exact q
 |some l=>
  have J:l.length<=8:=qK (f _ (cR d)).2
  conv=>whnf
  refine Ask.mk _ (aZ bQ mkA rfl rfl rfl Fy d) ?_
  conv=>whnf
  refine Ask.mk _ (aZ bQ mkA rfl rfl rfl Fy d) ?_
  conv=>whnf
  refine aR.mk {t:Nat×MpC Lab (List Tx)×MpC Tx (List Tx)//t.1<=l.length/\(t.2.1.Ok/\Rows t.2.1 w)/\t.2.2.Ok/\Rows t.2.2 w} 4 (λt=>ixD k l t.val.1 (c.1,t.val.2)) (λt=>l.length-t.val.1) ⟨(0,c.2),X5 _,⟨B,p⟩,C,r⟩ ?_ ?_
  focus
   exact HJ (i:=0) (c:=c) (Z3 4) rfl rfl rfl rfl rfl rfl rfl rfl rfl
  intro⟨(i,a,b),D,⟨E,j⟩,F,n⟩;have D:i<=l.length:=D;have L:IntKind.i64.wrap ((i:Int)+1)=((i+1:Nat):Int):=by rw[al (by omega) (by omega)];omega
  conv=>whnf
  refine ae.dec (λh=>?_) (λh=>?_)
  focus
   have s:i<l.length:=q0o.1 h;have u:l.length-(i+1)<l.length-i:=by omega
   have M:(AZ ((aL a.A l[i]).getD []) k).length<=w:=X9 (HH _ _) (j.get _);have N:(AZ ((aL b.A l[i].1).getD []) k).length<=w:=X9 (HH _ _) (n.get _);have O:((aL a.A l[i]).getD []).length<1000000:=Nat.lt_of_le_of_lt (j.get _) (by omega);have P:((aL b.A l[i].1).getD []).length<1000000:=Nat.lt_of_le_of_lt (n.get _) (by omega);have Q:=uR (k:=l[i]) E j M;have R:=uR (k:=l[i].1) F n N
   conv=>whnf
   refine Idx.mk i rfl s ?_
   conv=>whnf
   refine aw (oU s rfl) ?_
   conv=>whnf
   refine Ask.mk _ (aZ (m:=a) (g:=gS) (k:=l[i]) (HF I) H rfl rfl rfl zTx rfl) ?_
   conv=>whnf
   refine⟨_,_,.cons (.opt (g:=gS) rfl _) (.cons .same .nil),⟨_,_,rfl,O,rfl⟩,?_⟩
   conv=>whnf
   refine⟨2,a,l[i],_,rfl,by decide,by decide,rfl,rfl,rfl,?_⟩
   conv=>whnf
   refine Ask.mk _ (aZ (m:=b) (g:=gS) (k:=l[i].1) bQ mkN rfl rfl rfl zTx rfl) ?_
   conv=>whnf
   refine⟨_,_,.cons (.opt (g:=gS) rfl _) (.cons .same .nil),⟨_,_,rfl,P,rfl⟩,?_⟩
   conv=>whnf
   refine⟨3,b,l[i].1,_,rfl,by decide,by decide,rfl,rfl,rfl,?_⟩
   conv=>whnf
   exact⟨⟨(i+1,nW a l[i] (AZ ((aL a.A l[i]).getD []) k),nW b l[i].1 (AZ ((aL b.A l[i].1).getD []) k)),s,Q,R⟩,u,HJ (i:=i+1) (c:=(c.1,nW a l[i] (AZ ((aL a.A l[i]).getD []) k),nW b l[i].1 (AZ ((aL b.A l[i].1).getD []) k))) (Z3 4) rfl rfl rfl rfl (congrArg (AV.si .i64) L) rfl rfl rfl rfl⟩
  have e:(c.1.del k).A=dt c.1.A k:=xn _ _;have q:NF ⟨dt c.1.A k,w⟩ (c.1.del k,a,b):=⟨e,z.del k,E,F,j,n,λy S=>f y (A4 (by rw[e];exact S))⟩
  conv=>whnf
  refine Ask.mk _ (tk (m:=c.1) bQ mkA rfl rfl rfl) ?_
  conv=>whnf
  exact⟨_,(c.1.del k,a,b),.told rfl,q,rV rfl rfl rfl rfl⟩
theorem NJ:ai 68 (cM 4 IxB Qp):=gj NI 5 (by kernel_rfl) IxB rfl (by decide) λx cs g v ⟨k,a,b,d,e⟩=>by subst a d e;exact⟨rfl,rfl,λc f=>xo x k c f b⟩
theorem NK:ai 68 (iC 4 IxB Qp):=xm (ay NI 5 _) (by kernel_rfl) IxB rfl (by decide) λx cs g v ⟨k,a,b,d,e⟩=>by subst a d e;exact⟨rfl,rfl,λc f=>xo x k c f b⟩
theorem Re.Ub{H:AH}{n b j m k x:Nat}{l s:List AV}{z:Bool}{u:AV}(d:u= .rw b 0 j k x)(e:j=m)(f:H.get b=some (.cells l z))(g:s.all flat.flat1=true)(a:s.length=m*k)(c:l.map mk=s.map mk)(h:x≠4:=by decide):Re H n u (H.set none aa b) (.fr m k s):=by subst d e;exact Re.row f g a c h
def J1(x:Ix)(cs:List AV)(v:AV):Prop:=∃k,cs=[.ss k]/\v= .sb (aL x.A k).isSome
theorem rW:ai 84 (dO 4 IxB J1):=(gj az 3 (by kernel_rfl) IxB rfl (by decide) λx cs d v ⟨e,k,f,h⟩=>by
 subst e f h;refine⟨rfl,rfl,λc b=>?_⟩;have a:=b.A;obtain⟨A,w⟩:=d;dsimp only at a;subst a;cases a:aL c.1.A k with
 |none=>
  have q:gi IxB ⟨c.1.A,w⟩ (.sb false) (.bool false) (mkH (bH (ixO c) 0)) 4:=⟨_,c,.told rfl,b,rV rfl rfl rfl rfl⟩
  conv=>whnf
  refine Ask.mk _ (aZ (m:=c.1) (g:=gL) bQ mkA rfl rfl rfl Fy a) ?_
  conv=>whnf
  exact q
 |some l=>
  have q:gi IxB ⟨c.1.A,w⟩ (.sb true) (.bool true) (mkH (bH (ixO c) 0)) 4:=⟨_,c,.told rfl,b,rV rfl rfl rfl rfl⟩
  conv=>whnf
  refine Ask.mk _ (aZ (m:=c.1) (g:=gL) bQ mkA rfl rfl rfl Fy a) ?_
  conv=>whnf
  exact q).ol
def Wb(x:Ix)(cs:List AV)(v:AV):Prop:=∃k,cs=[.ss k]/\v=gL ((aL x.A k).getD [])
theorem Qq:ai 87 (dO 4 IxB Wb):=(gj az 3 (by kernel_rfl) IxB rfl (by decide) λx cs f v ⟨h,k,i,j⟩=>by
 subst h i j;refine⟨rfl,rfl,λc e=>?_⟩;have b:=e.A;have a:=e.lab;obtain⟨A,w⟩:=f;dsimp only at b a;subst b;cases b:aL c.1.A k with
 |none=>
  conv=>whnf
  refine Ask.mk _ (aZ (m:=c.1) (g:=gL) bQ mkA rfl rfl rfl Fy b) ?_
  conv=>whnf
  exact⟨_,c,.nsl,e,rV rfl rfl rfl rfl⟩
 |some l=>
  have n:l.length<=8:=qK (a _ (cR b)).2;have d:(0+l.length)*32<=140737488355328:=by omega
  conv=>whnf
  refine Ask.mk _ (aZ (m:=c.1) (g:=gL) bQ mkA rfl rfl rfl Fy b) ?_
  conv=>whnf
  refine bF.grow 2 32 _ _ _ _ _ _ V9 .fr (jT l) (Dx l) .nsl d ?_
  conv=>whnf
  exact⟨_,c,Re.Ub rfl (q0s _) rfl (pD l) (jT l) rfl,e,rV rfl rfl rfl rfl⟩).ol
def oW (x:Ix) (k:Tx) (l:List Lab):Ix×AV:=if(iE k&&dS l)=true then(⟨gP (dt x.A k) k (cq l),x.w+8⟩,.si .i64 0)else(x,.si .i64 1)
def Wc(x:Ix)(cs:List AV)(a:Ix)(v:AV):Prop:=∃k l r,cs=[.ss k,gL l]/\l.length<=1000/\x.w<800000/\oW x k l=r/\a=r.1/\v=r.2/\ga v=true
def Qr:DT:=[(6,[(some 0,[0]),(some 0,[24]),(some 0,[25]),(some 0,[26]),(some 0,[1]),(some 0,[2]),(none,[29])]),
 (10,[(some 0,[0]),(some 0,[37]),(some 0,[38]),(some 0,[39]),(some 0,[8]),(some 0,[0]),(some 0,[42]),(some 0,[43]),(some 0,[44]),(some 0,[8]),(some 0,[45,46]),(some 0,[1]),(none,[47,48])]),
 (11,[(some 0,[0]),(some 0,[51]),(some 0,[52]),(some 0,[53]),(some 0,[8]),(some 0,[55]),(some 0,[0]),(some 0,[57]),(some 0,[58]),(some 0,[59]),(some 0,[8]),(some 0,[61]),(some 0,[60,62]),(some 0,[1]),(none,[63,64])])]
def KIs:FuncId->EP:=bb 107 Qr (aq 68 (iC 4 IxB Qp) KIx)
theorem Uc:aU KIs:=au (ag FD NK) (by kernel_rfl) (by kernel_rfl)
theorem XF{H:AH}{c:IxC}(a:H.get 0=some (.cells [.map 1,.map 2,.map 3] true))(b:H.get 1=some (c.1.O kT gL))(d:H.get 2=some (c.2.1.O kL gS))(e:H.get 3=some (c.2.2.O kT gS)):∀i o,(ixO c)[i]?=some o->H.get i=some o
 |0,o,h=>by injection h with h;subst h;exact a
 |1,o,h=>by injection h with h;subst h;exact b
 |2,o,h=>by injection h with h;subst h;exact d
 |3,o,h=>by injection h with h;subst h;exact e
 |i+4,o,h=>by simp[ixO]at h
def ixS (k:Tx) (l:List Lab) (i:Nat) (c:IxC):AE×AH:=(mkE [(0,.ptr 0 (0)),(1,.ss (k)),(31,.fr l.length 2 (cG l)),(32,.si .i64 ((l.length:Int))),(33,.si .i64 ((i:Int)))],mkH [(0,.cells [.map 1,.map 2,.map 3] true),(1,c.1.O kT gL),(2,c.2.1.O kL gS),(3,c.2.2.O kT gS)])
theorem HK{k:Tx}{l:List Lab}{i:Nat}{c:IxC}{p n:Nat}{σ:AE}{H:AH}(e:p<=4)(f:aj (pa 0) σ= .ptr 0 (0))(g:mk (aj (pa 1) σ)= .ss (k))(a:aj (pa 31) σ= .fr l.length 2 (cG l))(b:mk (aj (pa 32) σ)= .si .i64 ((l.length:Int)))(d:mk (aj (pa 33) σ)= .si .i64 ((i:Int)))(h:H.get 0=some (.cells [.map 1,.map 2,.map 3] true))(j:H.get 1=some (c.1.O kT gL))(m:H.get 2=some (c.2.1.O kL gS))(o:H.get 3=some (c.2.2.O kT gS)):Cov p σ H n ((ixS k l i c).1,(ixS k l i c).2,4):=
 Cov.ofA e ⟨.ptr (by decide) f,.str g,ah.frE a,.int b,.int d,trivial⟩ ⟨.inl ⟨_,h,ao.refl rfl⟩,.inl ⟨_,j,ao.refl (bl dQ DF)⟩,.inl ⟨_,m,ao.refl (bl DE nP)⟩,.inl ⟨_,o,ao.refl (bl dQ nP)⟩,trivial⟩ rfl
theorem J2(x:Ix)(k:Tx)(l:List Lab)(c:IxC)(F:NF x c)(G:l.length<=1000)(M:x.w<800000){r:Ix×AV}(B:oW x k l=r):ax KIs 5 107 [.ptr 0 0,.ss k,gL l] (mkH (bH (ixO c) 0)) 4 (gi IxB r.1 r.2):=by
 have no:(iE k&&dS l)=false->gi IxB r.1 r.2 (.int .i64 1) (mkH (bH (ixO c) 0)) 4:=λe=>by
  subst B;unfold oW;rw[e];exact⟨_,c,.told rfl,F,rV rfl rfl rfl rfl⟩
 have H:iE k=false->gi IxB r.1 r.2 (.int .i64 1) (mkH (bH (ixO c) 0)) 4:=λe=>no (by rw[e];rfl)
 have I:dS l=false->gi IxB r.1 r.2 (.int .i64 1) (mkH (bH (ixO c) 0)) 4:=λe=>no (by rw[e,Bool.and_false])
 conv=>whnf
 refine⟨_,_,_,.cons .same .nil,⟨k,rfl,rfl⟩,?_⟩
 conv=>whnf
 refine ae.nsb (λC=>?_) (λC=>?_)
 focus
  have q:=H C
  conv=>whnf
  exact q
 conv=>whnf
 refine⟨_,_,_,.cons .same .nil,⟨l,rfl,G,rfl⟩,?_⟩
 conv=>whnf
 refine ae.nsb (λz2=>?_) (λz2=>?_)
 focus
  have q:=I z2
  conv=>whnf
  exact q
 have B:r=(⟨gP (dt x.A k) k (cq l),x.w+8⟩,.si .i64 0):=by rw[<-B];unfold oW;rw[C,z2];rfl
 have N:l.length<=8:=qK z2;have o:x.w<900000:=by omega
 subst B;clear no H I;obtain⟨fs,O,P⟩:=mkL
 conv=>whnf
 refine⟨x,[.ss k],_,_,_,c,rfl,by decide,.cons .same .nil,F,XF rfl rfl rfl rfl,⟨k,rfl,o,rfl,rfl⟩,λf a=>?_⟩;have p:f.1.A=dt x.A k:=a.A
 conv=>whnf
 refine⟨_,_,.cons .same .nil,⟨l,rfl,G,rfl⟩,?_⟩
 conv=>whnf
 refine Ask.mk _ (xj (m:=f.1) (g:=gL) (v:=cq l) (k:=k) bQ mkA rfl rfl (congrArg (λn=>AV.fr n 2 (cG (cq l))) (qM l).length_eq.symm) rfl) ?_
 conv=>whnf
 refine aR.mk {t:Nat×MpC Lab (List Tx)×MpC Tx (List Tx)//t.1<=l.length/\(t.2.1.Ok/\Rows t.2.1 (x.w+t.1))/\t.2.2.Ok/\Rows t.2.2 (x.w+t.1)} 4 (λt=>ixS k l t.val.1 (f.1.put k (cq l),t.val.2)) (λt=>l.length-t.val.1) ⟨(0,f.2),X5 _,⟨a.o2,a.r2⟩,a.o3,a.r3⟩ ?_ ?_
 focus
  exact HK (i:=0) (c:=(f.1.put k (cq l),f.2)) (Z3 4) rfl rfl rfl rfl rfl rfl rfl rfl rfl
 intro⟨(i,b,d),J,⟨K,s⟩,L,u⟩;have J:i<=l.length:=J;have s:Rows b (x.w+i):=s;have u:Rows d (x.w+i):=u;have Q:IntKind.i64.wrap ((i:Int)+1)=((i+1:Nat):Int):=by rw[al (by omega) (by omega)];omega
 conv=>whnf
 refine ae.dec (λh=>?_) (λh=>?_)
 focus
  have D:i<l.length:=q0o.1 h;have E:l.length-(i+1)<l.length-i:=by omega
  have R:=s.get l[i];have S:=u.get l[i].1;have T:(nV ((aL b.A l[i]).getD []) k).length<=x.w+(i+1):=by have:=xf ((aL b.A l[i]).getD []) k;omega
  have U:(nV ((aL d.A l[i].1).getD []) k).length<=x.w+(i+1):=by have:=xf ((aL d.A l[i].1).getD []) k;omega
  have V:((aL b.A l[i]).getD []).length<1000000:=by omega
  have W:((aL d.A l[i].1).getD []).length<1000000:=by omega
  have X:=uR (k:=l[i]) K (s.le (w':=x.w+(i+1)) (by omega)) T;have Z:=uR (k:=l[i].1) L (u.le (w':=x.w+(i+1)) (by omega)) U;clear R S
  conv=>whnf
  refine Idx.mk i rfl D ?_
  conv=>whnf
  refine aw (oU D rfl) ?_
  conv=>whnf
  refine Ask.mk _ (aZ (m:=b) (g:=gS) (k:=l[i]) (HF P) O rfl rfl rfl zTx rfl) ?_
  conv=>whnf
  refine⟨_,_,.cons (.opt (g:=gS) rfl _) (.cons .same .nil),⟨_,_,rfl,V,rfl⟩,?_⟩
  conv=>whnf
  refine⟨2,b,l[i],_,rfl,by decide,by decide,rfl,rfl,rfl,?_⟩
  conv=>whnf
  refine Ask.mk _ (aZ (m:=d) (g:=gS) (k:=l[i].1) bQ mkN rfl rfl rfl zTx rfl) ?_
  conv=>whnf
  refine⟨_,_,.cons (.opt (g:=gS) rfl _) (.cons .same .nil),⟨_,_,rfl,W,rfl⟩,?_⟩
  conv=>whnf
  refine⟨3,d,l[i].1,_,rfl,by decide,by decide,rfl,rfl,rfl,?_⟩
  conv=>whnf
  exact⟨⟨(i+1,nW b l[i] (nV ((aL b.A l[i]).getD []) k),nW d l[i].1 (nV ((aL d.A l[i].1).getD []) k)),D,X,Z⟩,E,HK (i:=i+1) (c:=(f.1.put k (cq l),nW b l[i] (nV ((aL b.A l[i]).getD []) k),nW d l[i].1 (nV ((aL d.A l[i].1).getD []) k))) (Z3 4) rfl rfl rfl rfl (congrArg (AV.si .i64) Q) rfl rfl rfl rfl⟩
 have e:(f.1.put k (cq l)).A=gP (dt x.A k) k (cq l):=by rw[HG,p]
 have z:x.w+i<=x.w+8:=by omega
 have q:NF ⟨gP (dt x.A k) k (cq l),x.w+8⟩ (f.1.put k (cq l),b,d):=⟨e,a.o1.put k _,K,L,s.le z,u.le z,λy j=>by
  have j:y∈gP (dt x.A k) k (cq l):=j;rw[<-e]at j;rcases rU j with rfl|j
  ·exact⟨C,(Dz (qM l)).trans z2⟩
  ·rw[p]at j;exact a.lab y j⟩
 conv=>whnf
 exact⟨_,(f.1.put k (cq l),b,d),.told rfl,q,rV rfl rfl rfl rfl⟩
theorem Qs:ai 107 (cM 4 IxB Wc):=gj Uc 5 (by kernel_rfl) IxB rfl (by decide) λx cs j v ⟨k,l,r,a,b,d,e,f,g,h⟩=>by subst a f g;exact⟨rfl,h,λc i=>J2 x k l c i b d e⟩
section
variable {K V:Type}
def iW(A:List (K×V))(I:List Nat):List (K×V):=I.filterMap λi=>A[i]?
def fw(bs:List Nat)(I:List Nat):List Nat:=I.filterMap λi=>bs[i]?
structure RgI(m:MpC K V)(I:List Nat):Prop where
 nd:I.Nodup
 lt:∀i∈I,i<m.A.length
theorem RgI.nil{m:MpC K V}:RgI m []:=⟨.nil,λi h=>(by cases h)⟩
theorem RgI.len{m:MpC K V}{I:List Nat}(h:RgI m I):I.length<=m.A.length:=by
 have a:I.Nodup/\I⊆List.range m.A.length:=⟨h.nd,λi b=>q2g.2 (h.lt i b)⟩;have:=List.Nodup.length_le_of_subset a.1 a.2;rwa [List.length_range]at this
theorem DG{A:List (K×V)}{I:List Nat}{i:Nat}(h:i<A.length):iW A (I++ [i])=iW A I++ [A[i]]:=by
 unfold iW;rw[List.filterMap_append];simp[X4 h]
theorem pF{bs:List Nat}{I:List Nat}{i x:Nat}(h:bs[i]?=some x):fw bs (I++ [i])=fw bs I++ [x]:=by
 unfold fw;rw[List.filterMap_append];simp[h]
theorem RgI.step{m:MpC K V}{I:List Nat}(h:RgI m I){i x:Nat}(g:i<m.A.length)(k:m.bs[i]?=some x)(hn:x∉fw m.bs I):RgI m (I++ [i])/\i∉I:=by
 have d:i∉I:=λq=>hn (q2k.2 ⟨i,q,k⟩)
 refine⟨⟨?_,λj c=>?_⟩,d⟩
 ·rw[q3l];exact⟨h.nd,by simp,λa l b f=>by simp at f;subst f;exact λe=>d (e▸l)⟩
 ·rcases q0x.1 c with c|c
  ·exact h.lt j c
  ·simp at c;subst c;exact g
theorem J3(A:List (K×V)):iW A (List.range A.length)=A:=by
 unfold iW
 have:∀(n:Nat),n<=A.length->(List.range n).filterMap (λi=>A[i]?)=A.take n:=λn=>by
  induction n with
  |zero=>intro _;simp
  |succ n a=>
   intro b;rw[List.range_succ,List.filterMap_append,a (by omega),X8 (by omega)];simp[X4 (show n<A.length by omega)]
 rw[this _ (Z3 _),q0e]
theorem RgI.uu{m:MpC K V}{I:List Nat}(h:RgI m I)(ho:m.bs.Nodup)(o:m.bs.length=m.A.length)(d:∀x∈m.bs,x∈fw m.bs I):(iW m.A I).Perm m.A/\I.length=m.A.length:=by
 have a:I.Perm (List.range m.A.length):=(List.perm_ext_iff_of_nodup h.nd List.nodup_range).2 λi=>by
  refine⟨λhi=>q2g.2 (h.lt i hi),λhi=>?_⟩;have hi:=q2g.1 hi;have f:=d _ (q0b (l:=m.bs) (n:=i) (by omega));obtain⟨j,p,e⟩:=q2k.1 f;obtain⟨g,k⟩:=X6.1 e;have:j=i:=(List.getElem_inj (h₀:=g) (h₁:=by omega) ho).1 k;rwa [<-this]
 refine⟨?_,by rw[a.length_eq,List.length_range]⟩;have:=a.filterMap (λi=>m.A[i]?);rw[show(List.range m.A.length).filterMap (λi=>m.A[i]?)=m.A from J3 m.A]at this;exact this
theorem A5{A:List (K×V)}{I:List Nat}{e:K×V}(h:e∈iW A I):e∈A:=by
 obtain⟨j,_,a⟩:=q2k.1 h;exact q0c a
theorem uS{m:MpC K V}{I:List Nat}(h:RgI m I):(iW m.A I).length=I.length:=by
 have:∀(I:List Nat),(∀i∈I,i<m.A.length)->(iW m.A I).length=I.length:=λI=>by
  induction I with
  |nil=>intro _;rfl
  |cons i I b=>
   intro a;unfold iW;rw[List.filterMap_cons];rw[X4 (a i Y6)];simp only[Z8];exact congrArg (·+1) (b λj c=>a j (X7 _ c))
 exact this I h.lt
end
theorem ao.HL{H:AH}{m:Nat}{r:Nat->Nat}{b k:Nat}{seen:List Nat}(c:b<m)(d:r b=b):ao H m r (.iter b k seen) (.iter b k seen):=
 ⟨⟨rfl,rfl⟩,λh i p j a _ ⟨e,q,f,g⟩=>⟨e,q,by rw[a.1 b c,d];exact f,g⟩⟩
theorem ao.b7{H:AH}{m k:Nat}{r:Nat->Nat}{o:AO}(h:ltO k o=true)(d:k<=m)(g:∀b,b<k->r b=b):ao H m r o o:=⟨⟨rfl,rfl⟩,λi j _ _ a _ ho=>OR.below (m:=k) (λb _ c e=>(a.1 b (q0t c d)).trans ((congrArg i.f (g b c)).trans e)) a.2 h ho⟩
theorem im{V W:List Tx}(h:V.Perm W):aH V=aH W:=th (bf V).1 (bf W).1 λs=>by rw[(bf V).2,(bf W).2];exact h.mem_iff
def Wd(x:Ix)(cs:List AV)(v:AV):Prop:=cs=[]/\x.A.length<=900000/\v=gS (aH (x.A.map Prod.fst))
def ixK (c:IxC) (I:List Nat) (V:List Tx):AE×AH:=(mkE [(3,.rw 5 0 V.length 1 0),(11,.ptr 4 (0))],mkH [(0,.cells [.map 1,.map 2,.map 3] true),(1,c.1.O kT gL),(2,c.2.1.O kL gS),(3,c.2.2.O kT gS),(4,AO.iter 1 c.1.cl (fw c.1.bs I)),(5,.cells (strs (V)) true)])
theorem HM{c:IxC}{I:List Nat}{V:List Tx}{p n:Nat}{σ:AE}{H:AH}(a:Nat)(v:a≠0/\a≠1/\a≠2/\a≠3/\a≠4)(w:p<=4)(j:ah H 6 (λb=>if b=5 then a else b) (aj (pa 3) σ) (.rw 5 0 V.length 1 0))(e:aj (pa 11) σ= .ptr 4 (0))(m:H.get 0=some (.cells [.map 1,.map 2,.map 3] true))(o:H.get 1=some (c.1.O kT gL))(r:H.get 2=some (c.2.1.O kL gS))(s:H.get 3=some (c.2.2.O kT gS))(t:H.get 4=some (AO.iter 1 c.1.cl (fw c.1.bs I)))(u:(∃l,H.get a=some (.cells l true)/\l.map mk=strs (V))∨((V)=[]/\n<=a)):Cov p σ H n ((ixK c I V).1,(ixK c I V).2,6):=
 Cov.ofB (λb=>if b=5 then a else b) (by omega) (λb d=>by repeat' rw[if_neg (by omega)]) ⟨j,.ptr (by decide) e,trivial⟩ ⟨.inl ⟨_,m,ao.b7 (k:=4) rfl (by decide) (λb d=>if_neg (by omega))⟩,.inl ⟨_,o,ao.b7 (k:=0) (bl dQ DF) (by decide) (λb d=>absurd d (q0f b))⟩,.inl ⟨_,r,ao.b7 (k:=0) (bl DE nP) (by decide) (λb d=>absurd d (q0f b))⟩,.inl ⟨_,s,ao.b7 (k:=0) (bl dQ nP) (by decide) (λb d=>absurd d (q0f b))⟩,.inl ⟨_,t,ao.HL (by decide) rfl⟩,u.elim (λ⟨l,h,g⟩=> .inl ⟨_,h,ao.bA (b6 _) (by rw[g,dd]) (λq=>q)⟩) (λh=> .inr ⟨by rw[h.1];rfl,h.2⟩),trivial⟩ rfl (λx f y i=>by simp only[Z4,Z5,or_false]at f i;rcases f with rfl|rfl|rfl|rfl|rfl|rfl<;>rcases i with rfl|rfl|rfl|rfl|rfl|rfl<;>simp<;>omega)
theorem NL:ai 65 (dO 4 IxB Wd):=(gj FD 4 (by kernel_rfl) IxB rfl (by decide) λx cs r v ⟨t,u,w,y⟩=>by
 subst t u y;refine⟨rfl,rfl,λc d=>?_⟩;have n:=d.A;have J:c.1.A.length<=900000:=by rw[n];exact w
 conv=>whnf
 refine aR.mk {I:List Nat//RgI c.1 I} 6 (λI=>ixK c I.val ((iW c.1.A I.val).map Prod.fst)) (λI=>c.1.A.length-I.val.length) ⟨[],.nil⟩ ?_ ?_
 focus
  exact HM (I:=[]) (V:=(iW c.1.A []).map Prod.fst) (c:=c) 5 (by decide) (Z3 4) (.iP rfl) rfl rfl rfl rfl rfl rfl (.inr ⟨rfl,Z3 _⟩)
 intro⟨I,j⟩;have o:((iW c.1.A I).map Prod.fst).length+1<=900001:=by rw[Y0,uS j];have:=j.len;omega
 have b:(((iW c.1.A I).map Prod.fst).length+1)*16<=140737488355328:=by omega
 have B:bk (strs ((iW c.1.A I).map Prod.fst)) 0 (((iW c.1.A I).map Prod.fst).length*1)=some (strs ((iW c.1.A I).map Prod.fst)):=bw (by rw[bq,q0i])
 conv=>whnf
 refine Nxt.mp 4 1 c.1.cl _ _ _ rfl rfl rfl rfl d.o1.lt (λho=>?_) (λi e x p k C=>?_)
 focus
  obtain⟨D,L⟩:=j.uu d.o1.nd d.o1.len ho;have E:aH ((iW c.1.A I).map Prod.fst)=aH (r.A.map Prod.fst):=by rw[<-n];exact im (D.map _)
  have F:((iW c.1.A I).map Prod.fst).length<=1000000:=by omega
  conv=>whnf
  refine⟨_,_,_,.cons (.row (l:=strs ((iW c.1.A I).map Prod.fst)) (z:=true) rfl (b6 _) (by rw[bq,q0i]) rfl) .nil,⟨_,rfl,F,rfl⟩,?_⟩
  conv=>whnf
  exact⟨_,c,by rw[E];exact .same,d,rV rfl rfl rfl rfl⟩
 obtain⟨f,rfl⟩:=uQ p;obtain⟨g,M⟩:=j.step f k C;have G:fw c.1.bs I++ [x]=fw c.1.bs (I++ [i]):=(pF k).symm;have q:(iW c.1.A I).map Prod.fst++ [c.1.A[i].1]=(iW c.1.A (I++ [i])).map Prod.fst:=by rw[DG f,q0k];rfl
 have H:c.1.A.length-(I++ [i]).length<c.1.A.length-I.length:=by have:=g.len;simp only[Z6,q2f]at this⊢;omega
 have a:(strs ((iW c.1.A I).map Prod.fst)++ [AV.ss c.1.A[i].1]).map mk=strs ((iW c.1.A (I++ [i])).map Prod.fst):=by rw[<-q];exact dU _ _
 have h:((iW c.1.A I).map Prod.fst).length+1=((iW c.1.A (I++ [i])).map Prod.fst).length:=by rw[<-q,Z6];rfl
 have m:=d.o1.nd
 conv=>whnf
 refine Ent.mp 4 1 c.1.cl i x (fw c.1.bs I) (jq kT gL c.1.A) c.1.bs _ rfl rfl rfl m k p ?_
 conv=>whnf
 refine bF.grow 1 16 _ _ _ _ _ _ tyT (.old rfl) rfl rfl (.rw rfl B) b ?_
 conv=>whnf
 exact⟨⟨I++ [i],g⟩,H,HM (I:=I++ [i]) (V:=(iW c.1.A (I++ [i])).map Prod.fst) (c:=c) 7 (by decide) (Z3 4) (.rw (by decide) rfl h) rfl rfl rfl rfl rfl (congrArg (λs=>some (AO.iter 1 c.1.cl s)) G) (.inl ⟨_,rfl,a⟩)⟩).ol
def XG:IxC:=(MpC.no,MpC.no,MpC.no)
theorem Qt:ai 51 (uc 4 IxB λcs y=>cs=[]/\y=⟨[],0⟩):=Nx (ay az 3 _) (by kernel_rfl) IxB rfl (by decide) λcs y ⟨f,g⟩=>by
 subst f g;refine⟨rfl,?_⟩
 conv=>whnf
 refine⟨XG,⟨rfl,MpC.DD,MpC.DD,MpC.DD,λ_ h=>(by cases h),λ_ h=>(by cases h),λ_ h=>(by cases h)⟩,Cov.ofR (λb=>if b=0 then 3 else b-1) (X5 _) (λb j=>absurd j (q0f b)) (λx c=>?_) (λx c=>?_) (λx c y d e=>?_)⟩
 ·simp only[Z4,Z5,or_false]at c;subst c;exact .ptr (by decide) rfl
 ·simp only[bH,ixO,IxB,Z4,Z5,or_false]at c;rcases c with rfl|rfl|rfl|rfl
  ·refine⟨by decide,.inl ⟨_,rfl,.cells (Z3 _) id λi k a=>?_⟩⟩
   match i,a with
   |0,a=>injection a with a;subst a;exact⟨_,rfl,.map (by decide) rfl⟩
   |1,a=>injection a with a;subst a;exact⟨_,rfl,.map (by decide) rfl⟩
   |2,a=>injection a with a;subst a;exact⟨_,rfl,.map (by decide) rfl⟩
   |i+3,a=>simp at a
  ·exact⟨by decide,.inl ⟨_,rfl,.ND⟩⟩
  ·exact⟨by decide,.inl ⟨_,rfl,.ND⟩⟩
  ·exact⟨by decide,.inl ⟨_,rfl,.ND⟩⟩
 ·simp only[bH,ixO,IxB,Z4,Z5,or_false]at c d;rcases c with rfl|rfl|rfl|rfl<;>rcases d with rfl|rfl|rfl|rfl<;>simp at e⊢
structure Rl where
 src:Tx
 dst:Tx
 kind:Int
 size:Int
 align:Int
deriving DecidableEq
def ruC(r:Rl):List AV:=[.ss r.src,.ss r.dst,.si .i64 r.kind,.si .i64 r.size,.si .i64 r.align]
def gR(r:Rl):AV:= .agg (ruC r)
def ruL(L:List Rl):List AV:=L.flatMap ruC
theorem rX(r:Rl)(L:List Rl):ruL (r::L)=ruC r++ruL L:=rfl
theorem jr(L:List Rl):(ruL L).length=L.length*5:=by
 induction L with
 |nil=>rfl
 |cons r L a=>rw[rX];simp only[Z6,Z8,a];show 5+_=_;omega
theorem iU(L:List Rl):(ruL L).all flat.flat1=true:=by
 induction L with
 |nil=>rfl
 |cons r L a=>rw[rX,List.all_append,a];rfl
theorem dB(L:List Rl):(ruL L).map mk=ruL L:=by
 induction L with
 |nil=>rfl
 |cons r L a=>rw[rX,q0k,a];rfl
theorem xp(L:List Rl)(r:Rl):(ruL L++ruC r).map mk=ruL (L++ [r]):=by
 have:ruL (L++ [r])=ruL L++ruC r:=by
  show(L++ [r]).flatMap ruC=_;rw[List.flatMap_append];simp[ruL]
 rw[this,q0k,dB];rfl
theorem DH:∀(L:List Rl) (i:Nat),(ruL L).drop (i*5)=ruL (L.drop i)
 |L,0=>by simp
 | [],i+1=>by simp[ruL]
 |r::L,i+1=>by
  rw[show(i+1)*5=i*5+1+1+1+1+1 by omega];exact DH L i
theorem rY{L:List Rl}{i o:Nat}(h:i<L.length)(ho:o=i*5):bk (ruL L) o 5=some (ruC L[i]):=by
 subst ho;unfold bk;rw[q0n (by rw[jr];omega),DH,q0d h,rX];rfl
theorem Ud:RTy 38 38 5 56:=⟨_,_,_,rfl,rfl,(λq h=>by cases h),rfl,rfl,rfl,rfl,by decide,by decide⟩
def za(r:Rl):Bool:=decide (1<=r.size/\r.size<=1099511627776/\0<=r.align/\r.align<r.size)
def cW(r:Rl):Bool:=za r&&(iE r.src&&(iE r.dst&&(!decide (r.src=r.dst)&&jY r.kind)))
def Ue(cs:List AV)(v:AV):Prop:=∃r:Rl,cs=[gR r]/\v= .sb (cW r)
theorem Qu{P:Program}{t:TypeId}{H:AH}{xs a:List AV}{pl:List (Nat×Nat)}{q:Bool}(b:iH P t=some pl)(c:jD xs a pl=some q):xV P .eql t (.agg xs) (.agg a) H=some (.bool q):=by
 show pU .eql ((iH P t).bind (jD xs a))=_;rw[b];show pU .eql (jD xs a pl)=_;rw[c];rfl
theorem We:iH Tryz.prog 32=some [(1,0),(1,1),(0,2),(0,3),(0,4)]:=by kernel_rfl
def KRr:FuncId->EP:=aq 105 (cQ Dy) (aq 149 (rp jY) evP)
theorem Uf:aU KRr:=ag (ag az Gh) HA
theorem Ug(r:Rl):jD [.str r.src,.str r.dst,.int .i64 r.kind,.int .i64 r.size,.int .i64 r.align] [.str r.src,.str r.dst,.int .i64 r.kind,.int .i64 (max 1 (min r.size 1099511627776)),.int .i64 (max 0 (min r.align (IntKind.i64.wrap (r.size-1))))] [(1,0),(1,1),(0,2),(0,3),(0,4)]=some (za r):=by
 have e:jD [.str r.src,.str r.dst,.int .i64 r.kind,.int .i64 r.size,.int .i64 r.align] [.str r.src,.str r.dst,.int .i64 r.kind,.int .i64 (max 1 (min r.size 1099511627776)),.int .i64 (max 0 (min r.align (IntKind.i64.wrap (r.size-1))))] [(1,0),(1,1),(0,2),(0,3),(0,4)]=some (dw r.src r.src&&(dw r.dst r.dst&&(decide (r.kind=r.kind)&&(decide (r.size=max 1 (min r.size 1099511627776))&&(decide (r.align=max 0 (min r.align (IntKind.i64.wrap (r.size-1))))&&true))))):=by
  simp[jD,nth]
 rw[e,bj.2 rfl,bj.2 rfl,decide_eq_true (rfl:r.kind=r.kind)];congr 1;unfold za;rw[q2j];simp only[Bool.true_and,Bool.and_true,Z9,decide_eq_true_eq];constructor
 ·rintro⟨b,a⟩;rw[al (by omega) (by omega)]at a;omega
 ·rintro⟨b,a,c,d⟩;rw[al (by omega) (by omega)];omega
attribute [local irreducible] iH
theorem Wg:ai 89 (cQ Ue):=oQ Uf 4 (by kernel_rfl) λcs v ⟨r,k,l⟩=>by
 subst k l;have q:=Ug r;have m:za r=false->cW r=false:=λz=>by unfold cW;rw[z];rfl
 have n:iE r.src=false->cW r=false:=λz=>by unfold cW;rw[z];simp
 have o:iE r.dst=false->cW r=false:=λz=>by unfold cW;rw[z];simp
 have p:dw r.src r.dst=true->cW r=false:=λz=>by unfold cW;rw[decide_eq_true (bj.1 z)];simp
 have s:za r=true->iE r.src=true->iE r.dst=true->dw r.src r.dst=false->cW r=jY r.kind:=λa b c d=>by
  have:r.src≠r.dst:=λe=>by rw[bj.2 e]at d;cases d
  unfold cW;rw[a,b,c,decide_eq_false this];rfl
 refine⟨rfl,rfl,?_⟩
 conv=>whnf
 generalize j:xV _ _ _ _ _ _=E;have f:E=some (.bool (za r)):=j.symm.trans (Qu We q);clear j;subst f
 conv=>whnf
 refine ae.sb (λg=>?_) (λg=>?_)
 ·conv=>whnf
  refine⟨_,_,_,.cons .same .nil,⟨_,rfl,rfl⟩,?_⟩
  conv=>whnf
  refine ae.sb (λh=>?_) (λh=>?_)
  ·conv=>whnf
   refine⟨_,_,_,.cons .same .nil,⟨_,rfl,rfl⟩,?_⟩
   conv=>whnf
   refine ae.sb (λz2=>?_) (λz2=>?_)
   ·conv=>whnf
    refine ae.nsb (λi=>?_) (λi=>?_)
    ·have e:=s g h z2 i
     conv=>whnf
     exact dA.told (congrArg AV.sb e.symm)
    ·have e:=p i
     conv=>whnf
     exact dA.told (congrArg AV.sb e.symm)
   ·have e:=o z2
    conv=>whnf
    exact dA.told (congrArg AV.sb e.symm)
  ·have e:=n h
   conv=>whnf
   exact dA.told (congrArg AV.sb e.symm)
 ·have e:=m g
  conv=>whnf
  exact dA.told (congrArg AV.sb e.symm)
abbrev Gr:=List (Tx×Rl)
abbrev GrC:=MpC Tx Rl
def zR:Rl:=⟨[],[],0,0,0⟩
theorem nQ{j:Nat}(r:Rl):ltV j (gR r)=true:=rfl
structure J4(x:Gr)(c:GrC):Prop where
 A:c.A=x
 o:c.Ok
 dst:∀e∈x,e.2.dst=e.1
 lab:∀e∈x,cW e.2=true
def grO(c:GrC):List AO:=[.cells [.map 1] true,c.O kT gR]
def GrB:Obj Gr GrC where
 ok:=J4
 O:=grO
 k:=2
 len _:=rfl
 own c o h:=by
  simp only[grO,Z4,Z5,or_false]at h;rcases h with rfl|rfl
  ·exact⟨rfl,rfl⟩
  ·exact⟨rfl,bl dQ nQ⟩
 pos c:=⟨_,_,_,rfl⟩
theorem mI{H:AH}{c:GrC}(a:H.get 0=some (.cells [.map 1] true))(b:H.get 1=some (c.O kT gR)):x0 H 2 (grO c) 0:=⟨⟨_,a,.refl rfl⟩,⟨_,b,.refl (bl dQ nQ)⟩,trivial⟩
theorem XH{H:AH}{c:GrC}(a:H.get 0=some (.cells [.map 1] true))(b:H.get 1=some (c.O kT gR)):∀i o,(grO c)[i]?=some o->H.get i=some o
 |0,o,h=>by injection h with h;subst h;exact a
 |1,o,h=>by injection h with h;subst h;exact b
 |i+2,o,h=>by simp[grO]at h
theorem mkR:dK Tryz.prog 167=some (9,.string,32):=by kernel_rfl
theorem lk:cS Tryz.prog 32=some (.agg #[.string ⟨#[]⟩,.string ⟨#[]⟩,.int .i64 0,.int .i64 0,.int .i64 0]):=by kernel_rfl
def rul(R:Gr)(d:Tx):Rl:=(aL R d).getD zR
def pkS (N:List Tx) (R:Gr) (s:Tx):List Rl:=(N.filter λd=>decide ((rul R d).src=s)).map (rul R)
def pkF (R:Gr) (so:Rl->Bool):List Rl:=(aH ((R.filter λe=>so e.2).map λe=>e.2.src)).flatMap (pkS (aH ((R.filter λe=>so e.2).map Prod.fst)) R)
theorem uT{R:Gr}{so:Rl->Bool}(h:(R.map Prod.fst).Nodup)(hd:∀e∈R,e.2.dst=e.1)(r:Rl):r∈pkF R so<->(r.dst,r)∈R/\so r=true:=by
 unfold pkF pkS;simp only[List.mem_flatMap,q0m,q0v,(bf _).2,decide_eq_true_eq];constructor
 ·rintro⟨s,⟨e,⟨b,c⟩,l⟩,d,⟨⟨a,⟨f,j⟩,k⟩,m⟩,i⟩;subst k;have g:aL R a.1=some a.2:=eI h f;have:rul R a.1=a.2:=by unfold rul;rw[g];rfl
  rw[this]at i;subst i;exact⟨by rw[hd a f];exact f,j⟩
 ·rintro⟨b,c⟩;have g:aL R r.dst=some r:=eI h b;have:rul R r.dst=r:=by unfold rul;rw[g];rfl
  exact⟨r.src,⟨(r.dst,r),⟨b,c⟩,rfl⟩,r.dst,⟨⟨(r.dst,r),⟨b,c⟩,rfl⟩,by rw[this]⟩,this⟩
theorem nE{a:Type}{p:a->Bool}(L:List a):(L.filter p).length<=L.length:=q0y _ _
theorem uU{a c:Type}{f:a->List c}{b:Nat}:∀{L:List a},(∀x∈L,(f x).length<=b)->(L.flatMap f).length<=L.length*b
 | [],_=>by simp
 |x::L,h=>by
  rw[q4b,Z6,Z8,q2a,Nat.one_mul];have e:=h x Y6;have g:=uU (L:=L) λy d=>h y (X7 _ d)
  omega
theorem xq{N:List Tx}{R:Gr}{s:Tx}{j:Nat}(h:j<N.length):pkS (N.take (j+1)) R s=pkS (N.take j) R s++if(rul R N[j]).src=s then [rul R N[j]]else []:=by
 unfold pkS;rw[X8 h,q2c,q0k];congr 1;by_cases q:(rul R N[j]).src=s
 ·simp[q]
 ·simp[q]
theorem ah.b7{H:AH}{m k:Nat}{r:Nat->Nat}{a:AV}(h:ltV k a=true)(g:k<=m)(i:∀b,b<k->r b=b):ah H m r a a:=λj n v c _ l=>VR.below (m:=k) (λb _ d e=>(c.1 b (q0t d g)).trans ((congrArg j.f (i b d)).trans e)) c.2 a v h l
theorem ah.de{H:AH}{m k:Nat}{r:Nat->Nat}{a c:AV}(e:a=c)(h:ltV k c=true)(d:k<=m)(f:∀b,b<k->r b=b):ah H m r a c:=by subst e;exact ah.b7 h d f
def soV(A:Gr)(so:Rl->Bool)(I:List Nat):Gr:=(iW A I).filter λe=>so e.2
theorem xr{A:Gr}{so:Rl->Bool}{I:List Nat}{i:Nat}(h:i<A.length):soV A so (I++ [i])=soV A so I++if so A[i].2=true then [A[i]]else []:=by
 unfold soV;rw[DG h,q2c];congr 1;by_cases q:so A[i].2=true
 ·simp[q]
 ·simp[q]
def KPk:FuncId->EP:=bb 111 [(8,[(some 1000000,[2,6,3,6,2,7,3,7]),(none,[0,1,2,3,4,5,6,7,8,9,10]),(none,[0,1,2,4,5,6,3,7,8,9,10]),(none,[0,1,2,4,5,6,7,3,8,9,10]),(none,[0,1,4,5,6,2,3,7,8,9,10]),(none,[0,1,4,5,6,2,7,3,8,9,10]),(none,[0,1,4,5,6,7,2,3,8,9,10])])] (aq 124 (cQ T6) evP)
theorem A6:aU KPk:=au (ag az R3) (by kernel_rfl) (by kernel_rfl)
def NM (c:GrC) (I:List Nat) (V:List Tx) (W:List Tx):AE×AH:=(mkE [(0,.ptr 0 (0)),(1,AV.fn 112 [] []),(5,.rw 8 0 V.length 1 0),(6,.rw 9 0 W.length 1 0),(20,.ptr 2 (0))],mkH [(0,.cells [.map 1] true),(1,c.O kT gR),(2,AO.iter 1 c.cl (fw c.bs I)),(8,.cells (strs (V)) true),(9,.cells (strs (W)) true)])
theorem js{c:GrC}{I:List Nat}{V:List Tx}{W:List Tx}{p n:Nat}{σ:AE}{H:AH}(a:Nat)(d:Nat)(A:a≠0/\a≠1/\a≠2/\a≠d/\d≠0/\d≠1/\d≠2)(B:p<=2)(m:aj (pa 0) σ= .ptr 0 (0))(o:ah H 10 (λb=>if b=8 then a else if b=9 then d else b) (aj (pa 1) σ) (AV.fn 112 [] []))(r:ah H 10 (λb=>if b=8 then a else if b=9 then d else b) (aj (pa 5) σ) (.rw 8 0 V.length 1 0))(s:ah H 10 (λb=>if b=8 then a else if b=9 then d else b) (aj (pa 6) σ) (.rw 9 0 W.length 1 0))(e:aj (pa 20) σ= .ptr 2 (0))(t:H.get 0=some (.cells [.map 1] true))(u:H.get 1=some (c.O kT gR))(v:H.get 2=some (AO.iter 1 c.cl (fw c.bs I)))(w:(∃l,H.get a=some (.cells l true)/\l.map mk=strs (V))∨((V)=[]/\n<=a))(z:(∃l,H.get d=some (.cells l true)/\l.map mk=strs (W))∨((W)=[]/\n<=d)):Cov p σ H n ((NM c I V W).1,(NM c I V W).2,10):=
 Cov.ofB (λb=>if b=8 then a else if b=9 then d else b) (by omega) (λb f=>by repeat' rw[if_neg (by omega)]) ⟨.ptr (by decide) m,o,r,s,.ptr (by decide) e,trivial⟩ ⟨.inl ⟨_,t,ao.b7 (k:=2) rfl (by decide) (λb f=>by rw[if_neg (by omega),if_neg (by omega)])⟩,.inl ⟨_,u,ao.b7 (k:=0) (bl dQ nQ) (by decide) (λb f=>absurd f (q0f b))⟩,.inl ⟨_,v,ao.HL (by decide) rfl⟩,w.elim (λ⟨l,h,g⟩=> .inl ⟨_,h,ao.bA (b6 _) (by rw[g,dd]) (λq=>q)⟩) (λh=> .inr ⟨by rw[h.1];rfl,h.2⟩),z.elim (λ⟨l,h,g⟩=> .inl ⟨_,h,ao.bA (b6 _) (by rw[g,dd]) (λq=>q)⟩) (λh=> .inr ⟨by rw[h.1];rfl,h.2⟩),trivial⟩ rfl (λx i y j=>by simp only[Z4,Z5,or_false]at i j;rcases i with rfl|rfl|rfl|rfl|rfl<;>rcases j with rfl|rfl|rfl|rfl|rfl<;>simp<;>omega)
def NN (c:GrC) (N:List Tx) (S:List Tx) (L:List Rl) (i:Nat):AE×AH:=(mkE [(0,.ptr 0 (0)),(5,.fr N.length 1 (strs N)),(9,AV.rw 8 0 L.length 5 0),(41,.fr S.length 1 (strs S)),(42,.si .i64 ((S.length:Int))),(43,.si .i64 ((i:Int)))],mkH [(0,.cells [.map 1] true),(1,c.O kT gR),(8,.cells (ruL (L)) true)])
theorem zb{c:GrC}{N:List Tx}{S:List Tx}{L:List Rl}{i:Nat}{p n:Nat}{σ:AE}{H:AH}(a:Nat)(z:a≠0/\a≠1)(A:p<=2)(r:aj (pa 0) σ= .ptr 0 (0))(s:aj (pa 5) σ= .fr N.length 1 (strs N))(t:ah H 9 (λb=>if b=8 then a else b) (aj (pa 9) σ) (AV.rw 8 0 L.length 5 0))(d:aj (pa 41) σ= .fr S.length 1 (strs S))(e:mk (aj (pa 42) σ)= .si .i64 ((S.length:Int)))(f:mk (aj (pa 43) σ)= .si .i64 ((i:Int)))(u:H.get 0=some (.cells [.map 1] true))(v:H.get 1=some (c.O kT gR))(w:(∃l,H.get a=some (.cells l true)/\l.map mk=ruL (L))∨((L)=[]/\n<=a)):Cov p σ H n ((NN c N S L i).1,(NN c N S L i).2,9):=
 Cov.ofB (λb=>if b=8 then a else b) (by omega) (λb j=>by repeat' rw[if_neg (by omega)]) ⟨.ptr (by decide) r,ah.frE s,t,ah.frE d,.int e,.int f,trivial⟩ ⟨.inl ⟨_,u,ao.b7 (k:=2) rfl (by decide) (λb j=>by rw[if_neg (by omega)])⟩,.inl ⟨_,v,ao.b7 (k:=0) (bl dQ nQ) (by decide) (λb j=>absurd j (q0f b))⟩,w.elim (λ⟨l,h,g⟩=> .inl ⟨_,h,ao.bA (iU _) (by rw[g,dB]) (λq=>q)⟩) (λh=> .inr ⟨by rw[h.1];rfl,h.2⟩),trivial⟩ rfl (λx m y o=>by simp only[Z4,Z5,or_false]at m o;rcases m with rfl|rfl|rfl<;>rcases o with rfl|rfl|rfl<;>simp<;>omega)
def NO (c:GrC) (N:List Tx) (S:List Tx) (L:List Rl) (s:Tx) (i:Nat) (j:Nat):AE×AH:=(mkE [(0,.ptr 0 (0)),(5,.fr N.length 1 (strs N)),(9,AV.rw 8 0 L.length 5 0),(11,.ss (s)),(41,.fr S.length 1 (strs S)),(42,.si .i64 ((S.length:Int))),(43,.si .i64 ((i:Int))),(47,.fr N.length 1 (strs N)),(48,.si .i64 ((N.length:Int))),(49,.si .i64 ((j:Int)))],mkH [(0,.cells [.map 1] true),(1,c.O kT gR),(8,.cells (ruL (L)) true)])
theorem tn{c:GrC}{N:List Tx}{S:List Tx}{L:List Rl}{s:Tx}{i:Nat}{j:Nat}{p n:Nat}{σ:AE}{H:AH}(a:Nat)(F:a≠0/\a≠1)(G:p<=2)(z:aj (pa 0) σ= .ptr 0 (0))(A:aj (pa 5) σ= .fr N.length 1 (strs N))(B:ah H 9 (λb=>if b=8 then a else b) (aj (pa 9) σ) (AV.rw 8 0 L.length 5 0))(d:mk (aj (pa 11) σ)= .ss (s))(e:aj (pa 41) σ= .fr S.length 1 (strs S))(f:mk (aj (pa 42) σ)= .si .i64 ((S.length:Int)))(m:mk (aj (pa 43) σ)= .si .i64 ((i:Int)))(o:aj (pa 47) σ= .fr N.length 1 (strs N))(r:mk (aj (pa 48) σ)= .si .i64 ((N.length:Int)))(t:mk (aj (pa 49) σ)= .si .i64 ((j:Int)))(C:H.get 0=some (.cells [.map 1] true))(D:H.get 1=some (c.O kT gR))(E:(∃l,H.get a=some (.cells l true)/\l.map mk=ruL (L))∨((L)=[]/\n<=a)):Cov p σ H n ((NO c N S L s i j).1,(NO c N S L s i j).2,9):=
 Cov.ofB (λb=>if b=8 then a else b) (by omega) (λb u=>by repeat' rw[if_neg (by omega)]) ⟨.ptr (by decide) z,ah.frE A,B,.str d,ah.frE e,.int f,.int m,ah.frE o,.int r,.int t,trivial⟩ ⟨.inl ⟨_,C,ao.b7 (k:=2) rfl (by decide) (λb u=>by rw[if_neg (by omega)])⟩,.inl ⟨_,D,ao.b7 (k:=0) (bl dQ nQ) (by decide) (λb u=>absurd u (q0f b))⟩,E.elim (λ⟨l,h,g⟩=> .inl ⟨_,h,ao.bA (iU _) (by rw[g,dB]) (λq=>q)⟩) (λh=> .inr ⟨by rw[h.1];rfl,h.2⟩),trivial⟩ rfl (λx v y w=>by simp only[Z4,Z5,or_false]at v w;rcases v with rfl|rfl|rfl<;>rcases w with rfl|rfl|rfl<;>simp<;>omega)
theorem J5(x:Gr)(c:GrC)(u:J4 x c)(X:c.A.length<=1000):ax KPk 5 53 [.ptr 0 0] (mkH (bH (grO c) 0)) 2 (gi GrB x (.fr (pkF c.A (λ_=>true)).length 5 (ruL (pkF c.A (λ_=>true))))):=by
 obtain⟨a,F⟩:∃a:Rl->Bool,a=λ_=>true:=⟨_,rfl⟩
 rw[<-F]
 conv=>whnf
 refine aR.mk {I:List Nat//RgI c I} 10 (λI=>NM c I.val ((soV c.A a I.val).map Prod.fst) ((soV c.A a I.val).map λe=>e.2.src)) (λI=>c.A.length-I.val.length) ⟨[],.nil⟩ ?_ ?_
 focus
  exact js (c:=c) (I:=[]) (V:=((soV c.A a []).map Prod.fst)) (W:=((soV c.A a []).map λe=>e.2.src)) 8 9 (by decide) (Z3 2) rfl (ah.de (k:=3) rfl rfl (by decide) (λb v=>by rw[if_neg (by omega),if_neg (by omega)])) (.iP rfl) (.iP rfl) rfl rfl rfl rfl (.inr ⟨rfl,by decide⟩) (.inr ⟨rfl,by decide⟩)
 intro⟨I,O⟩;have hIl:=O.len;have hle:(soV c.A a I).length<=I.length:=X9 (nE _) (Nat.le_of_eq (uS O));have p:(((soV c.A a I).map Prod.fst).length+1)*16<=140737488355328:=by rw[Y0];omega
 have t:(((soV c.A a I).map λe=>e.2.src).length+1)*16<=140737488355328:=by rw[Y0];omega
 have w:bk (strs ((soV c.A a I).map Prod.fst)) 0 (((soV c.A a I).map Prod.fst).length*1)=some (strs ((soV c.A a I).map Prod.fst)):=bw (by rw[bq,q0i]);have y:bk (strs ((soV c.A a I).map λe=>e.2.src)) 0 (((soV c.A a I).map λe=>e.2.src).length*1)=some (strs ((soV c.A a I).map λe=>e.2.src)):=bw (by rw[bq,q0i])
 conv=>whnf
 refine Nxt.mp 2 1 c.cl _ _ _ rfl rfl rfl rfl u.o.lt (λho=>?_) (λi e x B Y hn=>?_)
 rotate_left
 focus
  obtain⟨G,rfl⟩:=uQ B;obtain⟨n,Z⟩:=O.step G Y hn;have C:fw c.bs I++ [x]=fw c.bs (I++ [i]):=(pF Y).symm;have D:c.A.length-(I++ [i]).length<c.A.length-I.length:=by have:=n.len;simp only[Z6,q2f]at this⊢;omega
  have hnd:=u.o.nd;have P:=xr (so:=a) (I:=I) G
  have yes:a c.A[i].2=true->((strs ((soV c.A a I).map Prod.fst)++ [AV.ss c.A[i].1]).map mk=strs ((soV c.A a (I++ [i])).map Prod.fst)/\((soV c.A a I).map Prod.fst).length+1=((soV c.A a (I++ [i])).map Prod.fst).length)/\(strs ((soV c.A a I).map λe=>e.2.src)++ [AV.ss c.A[i].2.src]).map mk=strs ((soV c.A a (I++ [i])).map λe=>e.2.src)/\((soV c.A a I).map λe=>e.2.src).length+1=((soV c.A a (I++ [i])).map λe=>e.2.src).length:=λq=>by
   have eV:(soV c.A a (I++ [i])).map Prod.fst=(soV c.A a I).map Prod.fst++ [c.A[i].1]:=by rw[P,if_pos q,q0k];rfl
   have eW:(soV c.A a (I++ [i])).map (λe=>e.2.src)=(soV c.A a I).map (λe=>e.2.src)++ [c.A[i].2.src]:=by rw[P,if_pos q,q0k];rfl
   rw[eV,eW];exact⟨⟨dU _ _,by rw[Z6];rfl⟩,dU _ _,by rw[Z6];rfl⟩
  have no:a c.A[i].2=false->soV c.A a (I++ [i])=soV c.A a I:=λq=>by
   rw[P,q];simp
  clear P
  conv=>whnf
  refine Ent.mp 2 1 c.cl i x (fw c.bs I) (jq kT gR c.A) c.bs _ rfl rfl rfl hnd Y B ?_
  conv=>whnf
  have q:=yes (by rw[F])
  conv=>whnf
  refine⟨?_,?_,?_,?_,?_,?_,trivial⟩
  focus
   conv=>whnf
   refine bF.grow 1 16 _ _ _ _ _ _ tyT (.old rfl) rfl rfl (.rw rfl w) p ?_
   conv=>whnf
   refine bF.grow 1 16 _ _ _ _ _ _ tyT (.old rfl) rfl rfl (.rw rfl y) t ?_
   conv=>whnf
   refine⟨⟨I++ [i],n⟩,D,?_⟩;refine js (c:=c) (I:=I++ [i]) (V:=((soV c.A a (I++ [i])).map Prod.fst)) (W:=((soV c.A a (I++ [i])).map λe=>e.2.src)) 13 15 ?_ ?_ ?_ ?_ ?_ ?_ ?_ ?_ ?_ ?_ ?_ ?_
   ·exact by decide
   ·exact Z3 2
   ·exact rfl
   ·exact ah.de (k:=3) rfl rfl (by decide) (λb v=>by rw[if_neg (by omega),if_neg (by omega)])
   ·exact .rw (by decide) rfl q.1.2
   ·exact .rw (by decide) rfl q.2.2
   ·exact rfl
   ·exact rfl
   ·exact rfl
   ·exact congrArg (λs=>some (AO.iter 1 c.cl s)) C
   ·exact .inl ⟨_,rfl,q.1.1⟩
   ·exact .inl ⟨_,rfl,q.2.1⟩
  focus
   conv=>whnf
   refine bF.grow 1 16 _ _ _ _ _ _ tyT (.old rfl) rfl rfl (.rw rfl w) p ?_
   conv=>whnf
   refine bF.grow 1 16 _ _ _ _ _ _ tyT (.old rfl) rfl rfl (.rw rfl y) t ?_
   conv=>whnf
   refine⟨⟨I++ [i],n⟩,D,?_⟩;refine js (c:=c) (I:=I++ [i]) (V:=((soV c.A a (I++ [i])).map Prod.fst)) (W:=((soV c.A a (I++ [i])).map λe=>e.2.src)) 13 15 ?_ ?_ ?_ ?_ ?_ ?_ ?_ ?_ ?_ ?_ ?_ ?_
   ·exact by decide
   ·exact Z3 2
   ·exact rfl
   ·exact ah.de (k:=3) rfl rfl (by decide) (λb v=>by rw[if_neg (by omega),if_neg (by omega)])
   ·exact .rw (by decide) rfl q.1.2
   ·exact .rw (by decide) rfl q.2.2
   ·exact rfl
   ·exact rfl
   ·exact rfl
   ·exact congrArg (λs=>some (AO.iter 1 c.cl s)) C
   ·exact .inl ⟨_,rfl,q.1.1⟩
   ·exact .inl ⟨_,rfl,q.2.1⟩
  focus
   conv=>whnf
   refine bF.grow 1 16 _ _ _ _ _ _ tyT (.old rfl) rfl rfl (.rw rfl w) p ?_
   conv=>whnf
   refine bF.grow 1 16 _ _ _ _ _ _ tyT (.old rfl) rfl rfl (.rw rfl y) t ?_
   conv=>whnf
   refine⟨⟨I++ [i],n⟩,D,?_⟩;refine js (c:=c) (I:=I++ [i]) (V:=((soV c.A a (I++ [i])).map Prod.fst)) (W:=((soV c.A a (I++ [i])).map λe=>e.2.src)) 14 15 ?_ ?_ ?_ ?_ ?_ ?_ ?_ ?_ ?_ ?_ ?_ ?_
   ·exact by decide
   ·exact Z3 2
   ·exact rfl
   ·exact ah.de (k:=3) rfl rfl (by decide) (λb v=>by rw[if_neg (by omega),if_neg (by omega)])
   ·exact .rw (by decide) rfl q.1.2
   ·exact .rw (by decide) rfl q.2.2
   ·exact rfl
   ·exact rfl
   ·exact rfl
   ·exact congrArg (λs=>some (AO.iter 1 c.cl s)) C
   ·exact .inl ⟨_,rfl,q.1.1⟩
   ·exact .inl ⟨_,rfl,q.2.1⟩
  focus
   conv=>whnf
   refine bF.grow 1 16 _ _ _ _ _ _ tyT (.old rfl) rfl rfl (.rw rfl w) p ?_
   conv=>whnf
   refine bF.grow 1 16 _ _ _ _ _ _ tyT (.old rfl) rfl rfl (.rw rfl y) t ?_
   conv=>whnf
   refine⟨⟨I++ [i],n⟩,D,?_⟩;refine js (c:=c) (I:=I++ [i]) (V:=((soV c.A a (I++ [i])).map Prod.fst)) (W:=((soV c.A a (I++ [i])).map λe=>e.2.src)) 13 15 ?_ ?_ ?_ ?_ ?_ ?_ ?_ ?_ ?_ ?_ ?_ ?_
   ·exact by decide
   ·exact Z3 2
   ·exact rfl
   ·exact ah.de (k:=3) rfl rfl (by decide) (λb v=>by rw[if_neg (by omega),if_neg (by omega)])
   ·exact .rw (by decide) rfl q.1.2
   ·exact .rw (by decide) rfl q.2.2
   ·exact rfl
   ·exact rfl
   ·exact rfl
   ·exact congrArg (λs=>some (AO.iter 1 c.cl s)) C
   ·exact .inl ⟨_,rfl,q.1.1⟩
   ·exact .inl ⟨_,rfl,q.2.1⟩
  focus
   conv=>whnf
   refine bF.grow 1 16 _ _ _ _ _ _ tyT (.old rfl) rfl rfl (.rw rfl w) p ?_
   conv=>whnf
   refine bF.grow 1 16 _ _ _ _ _ _ tyT (.old rfl) rfl rfl (.rw rfl y) t ?_
   conv=>whnf
   refine⟨⟨I++ [i],n⟩,D,?_⟩;refine js (c:=c) (I:=I++ [i]) (V:=((soV c.A a (I++ [i])).map Prod.fst)) (W:=((soV c.A a (I++ [i])).map λe=>e.2.src)) 14 15 ?_ ?_ ?_ ?_ ?_ ?_ ?_ ?_ ?_ ?_ ?_ ?_
   ·exact by decide
   ·exact Z3 2
   ·exact rfl
   ·exact ah.de (k:=3) rfl rfl (by decide) (λb v=>by rw[if_neg (by omega),if_neg (by omega)])
   ·exact .rw (by decide) rfl q.1.2
   ·exact .rw (by decide) rfl q.2.2
   ·exact rfl
   ·exact rfl
   ·exact rfl
   ·exact congrArg (λs=>some (AO.iter 1 c.cl s)) C
   ·exact .inl ⟨_,rfl,q.1.1⟩
   ·exact .inl ⟨_,rfl,q.2.1⟩
  focus
   conv=>whnf
   refine bF.grow 1 16 _ _ _ _ _ _ tyT (.old rfl) rfl rfl (.rw rfl w) p ?_
   conv=>whnf
   refine bF.grow 1 16 _ _ _ _ _ _ tyT (.old rfl) rfl rfl (.rw rfl y) t ?_
   conv=>whnf
   refine⟨⟨I++ [i],n⟩,D,?_⟩;refine js (c:=c) (I:=I++ [i]) (V:=((soV c.A a (I++ [i])).map Prod.fst)) (W:=((soV c.A a (I++ [i])).map λe=>e.2.src)) 14 15 ?_ ?_ ?_ ?_ ?_ ?_ ?_ ?_ ?_ ?_ ?_ ?_
   ·exact by decide
   ·exact Z3 2
   ·exact rfl
   ·exact ah.de (k:=3) rfl rfl (by decide) (λb v=>by rw[if_neg (by omega),if_neg (by omega)])
   ·exact .rw (by decide) rfl q.1.2
   ·exact .rw (by decide) rfl q.2.2
   ·exact rfl
   ·exact rfl
   ·exact rfl
   ·exact congrArg (λs=>some (AO.iter 1 c.cl s)) C
   ·exact .inl ⟨_,rfl,q.1.1⟩
   ·exact .inl ⟨_,rfl,q.2.1⟩
 have hd:∀e∈c.A,e.2.dst=e.1:=λe B=>u.dst e (by rw[<-u.A];exact B)
 obtain⟨p1,p2⟩:=O.uu u.o.nd u.o.len ho;have pp:(soV c.A a I).Perm (c.A.filter λe=>a e.2):=p1.filter _;have eN:=im (pp.map Prod.fst);have eS:=im (pp.map λe=>e.2.src);have lV:((soV c.A a I).map Prod.fst).length<=1000000:=by rw[Y0];omega
 have lW:((soV c.A a I).map λe=>e.2.src).length<=1000000:=by rw[Y0];omega
 obtain⟨N,Q⟩:∃N,N=aH ((soV c.A a I).map Prod.fst):=⟨_,rfl⟩;obtain⟨S,hS⟩:∃S,S=aH ((soV c.A a I).map λe=>e.2.src):=⟨_,rfl⟩;have lN:N.length<=1000:=by rw[Q];have:=dh ((soV c.A a I).map Prod.fst);rw[Y0]at this;omega
 have lS:S.length<=1000:=by rw[hS];have:=dh ((soV c.A a I).map λe=>e.2.src);rw[Y0]at this;omega
 have gN:∀d∈N,∃r,aL c.A d=some r:=λd hd=>by
  rw[Q,(bf _).2,q0m]at hd;obtain⟨e,B,rfl⟩:=hd;exact⟨e.2,eI u.o.key (A5 (q0v.1 B).1)⟩
 have fin:S.flatMap (pkS N c.A)=pkF c.A a:=by rw[Q,hS,eN,eS];rfl
 have vN:AV.fr N.length 1 (strs N)= .fr (aH ((soV c.A a I).map Prod.fst)).length 1 (strs (aH ((soV c.A a I).map Prod.fst))):=by rw[Q]
 have vS:AV.fr S.length 1 (strs S)= .fr (aH ((soV c.A a I).map λe=>e.2.src)).length 1 (strs (aH ((soV c.A a I).map λe=>e.2.src))):=by rw[hS]
 clear eN eS pp
 conv=>whnf
 refine⟨_,.fr N.length 1 (strs N),_,.cons (.row (l:=strs ((soV c.A a I).map Prod.fst)) (z:=true) rfl (b6 _) (by rw[bq,q0i]) rfl) .nil,⟨_,rfl,lV,vN⟩,?_⟩
 conv=>whnf
 refine⟨_,.fr S.length 1 (strs S),_,.cons (.row (l:=strs ((soV c.A a I).map λe=>e.2.src)) (z:=true) rfl (b6 _) (by rw[bq,q0i]) rfl) .nil,⟨_,rfl,lW,vS⟩,?_⟩;have lP:∀(M:List Tx) (s:Tx),(pkS M c.A s).length<=M.length:=λM s=>by unfold pkS;rw[Y0];exact nE _
 have lL:∀i,((S.take i).flatMap (pkS N c.A)).length<=1000000:=λi=>by
  have h1:=uU (L:=S.take i) (f:=pkS N c.A) (b:=1000) λs _=>X9 (lP N s) lN
  have h2:(S.take i).length<=1000:=X9 (by rw[Y7];exact Nat.min_le_right _ _) lS;omega
 conv=>whnf
 refine aR.mk {i:Nat//i<=S.length} 9 (λi=>NN c N S ((S.take i.val).flatMap (pkS N c.A)) i.val) (λi=>S.length-i.val) ⟨0,X5 _⟩ ?_ ?_
 focus
  exact zb (c:=c) (N:=N) (S:=S) (L:=(S.take 0).flatMap (pkS N c.A)) (i:=0) 10 (by decide) (Z3 2) rfl rfl (.iP rfl) rfl rfl rfl rfl rfl (.inr ⟨rfl,by decide⟩)
 intro⟨i,Z⟩;have Z:i<=S.length:=Z;have hw:IntKind.i64.wrap ((i:Int)+1)=((i+1:Nat):Int):=by rw[al (by omega) (by omega)];omega
 have lLi:=lL i
 conv=>whnf
 refine ae.dec (λh=>?_) (λh=>?_)
 focus
  have T:i<S.length:=q0o.1 h;have e3:(S.take (i+1)).flatMap (pkS N c.A)=(S.take i).flatMap (pkS N c.A)++pkS N c.A S[i]:=by rw[X8 T,List.flatMap_append];simp
  conv=>whnf
  refine Idx.mk i rfl T ?_
  conv=>whnf
  refine aw (gm T (q0i _)) ?_
  conv=>whnf
  refine aR.mk {j:Nat//j<=N.length} 9 (λj=>NO c N S ((S.take i).flatMap (pkS N c.A)++pkS (N.take j.val) c.A S[i]) S[i] i j.val) (λj=>N.length-j.val) ⟨0,X5 _⟩ ?_ ?_
  focus
   exact tn (c:=c) (N:=N) (S:=S) (L:=(S.take i).flatMap (pkS N c.A)++pkS (N.take 0) c.A S[i]) (s:=S[i]) (i:=i) (j:=0) 8 (by decide) (Z3 2) rfl rfl (.rw (by decide) rfl (by rw[Z6];rfl)) rfl rfl rfl rfl rfl rfl rfl rfl rfl (.inl ⟨_,rfl,by rw[dB];exact congrArg ruL (q0w _).symm⟩)
  intro⟨j,hj⟩;have hj:j<=N.length:=hj;have H:IntKind.i64.wrap ((j:Int)+1)=((j+1:Nat):Int):=by rw[al (by omega) (by omega)];omega
  obtain⟨L,J⟩:∃L,L=(S.take i).flatMap (pkS N c.A)++pkS (N.take j) c.A S[i]:=⟨_,rfl⟩
  have bL:L.length<=1001000:=by
   have h1:=lP (N.take j) S[i];rw[Y7]at h1;rw[J,Z6];omega
  rw[<-J]
  conv=>whnf
  refine ae.dec (λh=>?_) (λh=>?_)
  focus
   have E:j<N.length:=q0o.1 h;obtain⟨r,hr⟩:=gN N[j] (q0b E);have er:rul c.A N[j]=r:=by unfold rul;rw[hr];rfl
   have U:=xq (R:=c.A) (s:=S[i]) E;rw[er]at U;have K:N.length-(j+1)<N.length-j:=by omega
   have y1:dw r.src S[i]=true->L++ [r]=(S.take i).flatMap (pkS N c.A)++pkS (N.take (j+1)) c.A S[i]:=λq=>by rw[U,if_pos (bj.1 q),J,q0h]
   have y0:dw r.src S[i]=false->L=(S.take i).flatMap (pkS N c.A)++pkS (N.take (j+1)) c.A S[i]:=λq=>by
    have:r.src≠S[i]:=λe=>by rw[bj.2 e]at q;cases q
    rw[U,if_neg this,q0w,J]
   have hsL:bk (ruL L) 0 (L.length*5)=some (ruL L):=bw (jr L);have hbL:(L.length+1)*56<=140737488355328:=by omega
   clear U
   conv=>whnf
   refine Idx.mk j rfl E ?_
   conv=>whnf
   refine aw (gm E (q0i _)) ?_
   conv=>whnf
   refine Ask.mk _ (aZ (m:=c) (g:=gR) (k:=N[j]) bQ mkR rfl rfl rfl lk hr) ?_
   conv=>whnf
   refine ae.sb (λz=>?_) (λz=>?_)
   focus
    have q:=y1 z
    conv=>whnf
    refine Ask.mk _ (aZ (m:=c) (g:=gR) (k:=N[j]) bQ mkR rfl rfl rfl lk hr) ?_
    conv=>whnf
    refine bF.grow 5 56 _ _ _ _ _ _ Ud (.old rfl) rfl rfl (.rw rfl hsL) hbL ?_
    conv=>whnf
    exact⟨⟨j+1,E⟩,K,tn (c:=c) (N:=N) (S:=S) (L:=(S.take i).flatMap (pkS N c.A)++pkS (N.take (j+1)) c.A S[i]) (s:=S[i]) (i:=i) (j:=j+1) 10 (by decide) (Z3 2) rfl rfl (.rw (by decide) rfl (by rw[<-q,Z6];rfl)) rfl rfl rfl rfl rfl rfl (congrArg (AV.si .i64) H) rfl rfl (.inl ⟨_,rfl,by rw[<-q];exact xp L r⟩)⟩
   have q:=y0 z
   conv=>whnf
   exact⟨⟨j+1,E⟩,K,tn (c:=c) (N:=N) (S:=S) (L:=(S.take i).flatMap (pkS N c.A)++pkS (N.take (j+1)) c.A S[i]) (s:=S[i]) (i:=i) (j:=j+1) 8 (by decide) (Z3 2) rfl rfl (.rw (by decide) rfl (by rw[<-q])) rfl rfl rfl rfl rfl rfl (congrArg (AV.si .i64) H) rfl rfl (.inl ⟨_,rfl,by rw[<-q];exact dB L⟩)⟩
  have ej:j=N.length:=by have h:¬(j:Int)<(N.length:Int):=h;omega
  have eL:L=(S.take (i+1)).flatMap (pkS N c.A):=by rw[J,ej,q0e,e3]
  conv=>whnf
  exact⟨⟨i+1,T⟩,by show S.length-(i+1)<S.length-i;omega,zb (c:=c) (N:=N) (S:=S) (L:=(S.take (i+1)).flatMap (pkS N c.A)) (i:=i+1) 8 (by decide) (Z3 2) rfl rfl (.rw (by decide) rfl (by rw[eL])) rfl rfl (congrArg (AV.si .i64) hw) rfl rfl (.inl ⟨_,rfl,by rw[eL];exact dB _⟩)⟩
 have ei:i=S.length:=by have h:¬(i:Int)<(S.length:Int):=h;omega
 have eF:(S.take i).flatMap (pkS N c.A)=pkF c.A a:=by rw[ei,q0e,fin]
 conv=>whnf
 exact⟨_,c,Re.Ub rfl (congrArg List.length eF) rfl (iU _) (jr _) (by rw[eF]),u,mI rfl rfl⟩
def Uh (k:Tx) (c:GrC) (I:List Nat) (V:List Tx) (W:List Tx):AE×AH:=(mkE [(0,.ptr 0 (0)),(1,AV.fn 189 [] [.ptr 2 0]),(5,.rw 8 0 V.length 1 0),(6,.rw 9 0 W.length 1 0),(20,.ptr 3 (0))],mkH [(0,.cells [.map 1] true),(1,c.O kT gR),(2,.cells [.ss k] true),(3,AO.iter 1 c.cl (fw c.bs I)),(8,.cells (strs (V)) true),(9,.cells (strs (W)) true)])
theorem jU{k:Tx}{c:GrC}{I:List Nat}{V:List Tx}{W:List Tx}{p n:Nat}{σ:AE}{H:AH}(a:Nat)(d:Nat)(B:a≠0/\a≠1/\a≠2/\a≠3/\a≠d/\d≠0/\d≠1/\d≠2/\d≠3)(C:p<=3)(m:aj (pa 0) σ= .ptr 0 (0))(o:ah H 10 (λb=>if b=8 then a else if b=9 then d else b) (aj (pa 1) σ) (AV.fn 189 [] [.ptr 2 0]))(r:ah H 10 (λb=>if b=8 then a else if b=9 then d else b) (aj (pa 5) σ) (.rw 8 0 V.length 1 0))(s:ah H 10 (λb=>if b=8 then a else if b=9 then d else b) (aj (pa 6) σ) (.rw 9 0 W.length 1 0))(f:aj (pa 20) σ= .ptr 3 (0))(t:H.get 0=some (.cells [.map 1] true))(u:H.get 1=some (c.O kT gR))(v:H.get 2=some (.cells [.ss k] true))(w:H.get 3=some (AO.iter 1 c.cl (fw c.bs I)))(z:(∃l,H.get a=some (.cells l true)/\l.map mk=strs (V))∨((V)=[]/\n<=a))(A:(∃l,H.get d=some (.cells l true)/\l.map mk=strs (W))∨((W)=[]/\n<=d)):Cov p σ H n ((Uh k c I V W).1,(Uh k c I V W).2,10):=
 Cov.ofB (λb=>if b=8 then a else if b=9 then d else b) (by omega) (λb e=>by repeat' rw[if_neg (by omega)]) ⟨.ptr (by decide) m,o,r,s,.ptr (by decide) f,trivial⟩ ⟨.inl ⟨_,t,ao.b7 (k:=2) rfl (by decide) (λb e=>by rw[if_neg (by omega),if_neg (by omega)])⟩,.inl ⟨_,u,ao.b7 (k:=0) (bl dQ nQ) (by decide) (λb e=>absurd e (q0f b))⟩,.inl ⟨_,v,ao.b7 (k:=0) rfl (by decide) (λb e=>absurd e (q0f b))⟩,.inl ⟨_,w,ao.HL (by decide) rfl⟩,z.elim (λ⟨l,h,g⟩=> .inl ⟨_,h,ao.bA (b6 _) (by rw[g,dd]) (λq=>q)⟩) (λh=> .inr ⟨by rw[h.1];rfl,h.2⟩),A.elim (λ⟨l,h,g⟩=> .inl ⟨_,h,ao.bA (b6 _) (by rw[g,dd]) (λq=>q)⟩) (λh=> .inr ⟨by rw[h.1];rfl,h.2⟩),trivial⟩ rfl (λx i y j=>by simp only[Z4,Z5,or_false]at i j;rcases i with rfl|rfl|rfl|rfl|rfl|rfl<;>rcases j with rfl|rfl|rfl|rfl|rfl|rfl<;>simp<;>omega)
def Ui (k:Tx) (c:GrC) (N:List Tx) (S:List Tx) (L:List Rl) (i:Nat):AE×AH:=(mkE [(0,.ptr 0 (0)),(5,.fr N.length 1 (strs N)),(9,AV.rw 8 0 L.length 5 0),(41,.fr S.length 1 (strs S)),(42,.si .i64 ((S.length:Int))),(43,.si .i64 ((i:Int)))],mkH [(0,.cells [.map 1] true),(1,c.O kT gR),(2,.cells [.ss k] true),(8,.cells (ruL (L)) true)])
theorem DI{k:Tx}{c:GrC}{N:List Tx}{S:List Tx}{L:List Rl}{i:Nat}{p n:Nat}{σ:AE}{H:AH}(a:Nat)(A:a≠0/\a≠1/\a≠2)(B:p<=3)(r:aj (pa 0) σ= .ptr 0 (0))(s:aj (pa 5) σ= .fr N.length 1 (strs N))(t:ah H 9 (λb=>if b=8 then a else b) (aj (pa 9) σ) (AV.rw 8 0 L.length 5 0))(e:aj (pa 41) σ= .fr S.length 1 (strs S))(f:mk (aj (pa 42) σ)= .si .i64 ((S.length:Int)))(j:mk (aj (pa 43) σ)= .si .i64 ((i:Int)))(u:H.get 0=some (.cells [.map 1] true))(v:H.get 1=some (c.O kT gR))(w:H.get 2=some (.cells [.ss k] true))(z:(∃l,H.get a=some (.cells l true)/\l.map mk=ruL (L))∨((L)=[]/\n<=a)):Cov p σ H n ((Ui k c N S L i).1,(Ui k c N S L i).2,9):=
 Cov.ofB (λb=>if b=8 then a else b) (by omega) (λb d=>by repeat' rw[if_neg (by omega)]) ⟨.ptr (by decide) r,ah.frE s,t,ah.frE e,.int f,.int j,trivial⟩ ⟨.inl ⟨_,u,ao.b7 (k:=2) rfl (by decide) (λb d=>by rw[if_neg (by omega)])⟩,.inl ⟨_,v,ao.b7 (k:=0) (bl dQ nQ) (by decide) (λb d=>absurd d (q0f b))⟩,.inl ⟨_,w,ao.b7 (k:=0) rfl (by decide) (λb d=>absurd d (q0f b))⟩,z.elim (λ⟨l,h,g⟩=> .inl ⟨_,h,ao.bA (iU _) (by rw[g,dB]) (λq=>q)⟩) (λh=> .inr ⟨by rw[h.1];rfl,h.2⟩),trivial⟩ rfl (λx m y o=>by simp only[Z4,Z5,or_false]at m o;rcases m with rfl|rfl|rfl|rfl<;>rcases o with rfl|rfl|rfl|rfl<;>simp<;>omega)
def Uj (k:Tx) (c:GrC) (N:List Tx) (S:List Tx) (L:List Rl) (s:Tx) (i:Nat) (j:Nat):AE×AH:=(mkE [(0,.ptr 0 (0)),(5,.fr N.length 1 (strs N)),(9,AV.rw 8 0 L.length 5 0),(11,.ss (s)),(41,.fr S.length 1 (strs S)),(42,.si .i64 ((S.length:Int))),(43,.si .i64 ((i:Int))),(47,.fr N.length 1 (strs N)),(48,.si .i64 ((N.length:Int))),(49,.si .i64 ((j:Int)))],mkH [(0,.cells [.map 1] true),(1,c.O kT gR),(2,.cells [.ss k] true),(8,.cells (ruL (L)) true)])
theorem xt{k:Tx}{c:GrC}{N:List Tx}{S:List Tx}{L:List Rl}{s:Tx}{i:Nat}{j:Nat}{p n:Nat}{σ:AE}{H:AH}(a:Nat)(G:a≠0/\a≠1/\a≠2)(I:p<=3)(z:aj (pa 0) σ= .ptr 0 (0))(A:aj (pa 5) σ= .fr N.length 1 (strs N))(B:ah H 9 (λb=>if b=8 then a else b) (aj (pa 9) σ) (AV.rw 8 0 L.length 5 0))(e:mk (aj (pa 11) σ)= .ss (s))(f:aj (pa 41) σ= .fr S.length 1 (strs S))(m:mk (aj (pa 42) σ)= .si .i64 ((S.length:Int)))(o:mk (aj (pa 43) σ)= .si .i64 ((i:Int)))(r:aj (pa 47) σ= .fr N.length 1 (strs N))(t:mk (aj (pa 48) σ)= .si .i64 ((N.length:Int)))(u:mk (aj (pa 49) σ)= .si .i64 ((j:Int)))(C:H.get 0=some (.cells [.map 1] true))(D:H.get 1=some (c.O kT gR))(E:H.get 2=some (.cells [.ss k] true))(F:(∃l,H.get a=some (.cells l true)/\l.map mk=ruL (L))∨((L)=[]/\n<=a)):Cov p σ H n ((Uj k c N S L s i j).1,(Uj k c N S L s i j).2,9):=
 Cov.ofB (λb=>if b=8 then a else b) (by omega) (λb d=>by repeat' rw[if_neg (by omega)]) ⟨.ptr (by decide) z,ah.frE A,B,.str e,ah.frE f,.int m,.int o,ah.frE r,.int t,.int u,trivial⟩ ⟨.inl ⟨_,C,ao.b7 (k:=2) rfl (by decide) (λb d=>by rw[if_neg (by omega)])⟩,.inl ⟨_,D,ao.b7 (k:=0) (bl dQ nQ) (by decide) (λb d=>absurd d (q0f b))⟩,.inl ⟨_,E,ao.b7 (k:=0) rfl (by decide) (λb d=>absurd d (q0f b))⟩,F.elim (λ⟨l,h,g⟩=> .inl ⟨_,h,ao.bA (iU _) (by rw[g,dB]) (λq=>q)⟩) (λh=> .inr ⟨by rw[h.1];rfl,h.2⟩),trivial⟩ rfl (λx v y w=>by simp only[Z4,Z5,or_false]at v w;rcases v with rfl|rfl|rfl|rfl<;>rcases w with rfl|rfl|rfl|rfl<;>simp<;>omega)
theorem DJ(x:Gr)(k:Tx)(c:GrC)(u:J4 x c)(X:c.A.length<=1000):ax KPk 5 133 [.ptr 0 0,.ss k] (mkH (bH (grO c) 0)) 2 (gi GrB x (.fr (pkF c.A (λr=>decide (r.src=k))).length 5 (ruL (pkF c.A (λr=>decide (r.src=k)))))):=by
 obtain⟨a,v⟩:∃a:Rl->Bool,a=λr=>decide (r.src=k):=⟨_,rfl⟩
 rw[<-v]
 conv=>whnf
 refine aR.mk {I:List Nat//RgI c I} 10 (λI=>Uh k c I.val ((soV c.A a I.val).map Prod.fst) ((soV c.A a I.val).map λe=>e.2.src)) (λI=>c.A.length-I.val.length) ⟨[],.nil⟩ ?_ ?_
 focus
  exact jU (c:=c) (I:=[]) (V:=((soV c.A a []).map Prod.fst)) (W:=((soV c.A a []).map λe=>e.2.src)) 8 9 (by decide) (Z3 3) rfl (ah.de (k:=3) rfl rfl (by decide) (λb w=>by rw[if_neg (by omega),if_neg (by omega)])) (.iP rfl) (.iP rfl) rfl rfl rfl rfl rfl (.inr ⟨rfl,by decide⟩) (.inr ⟨rfl,by decide⟩)
 intro⟨I,O⟩;have hIl:=O.len;have hle:(soV c.A a I).length<=I.length:=X9 (nE _) (Nat.le_of_eq (uS O));have p:(((soV c.A a I).map Prod.fst).length+1)*16<=140737488355328:=by rw[Y0];omega
 have t:(((soV c.A a I).map λe=>e.2.src).length+1)*16<=140737488355328:=by rw[Y0];omega
 have C:bk (strs ((soV c.A a I).map Prod.fst)) 0 (((soV c.A a I).map Prod.fst).length*1)=some (strs ((soV c.A a I).map Prod.fst)):=bw (by rw[bq,q0i]);have D:bk (strs ((soV c.A a I).map λe=>e.2.src)) 0 (((soV c.A a I).map λe=>e.2.src).length*1)=some (strs ((soV c.A a I).map λe=>e.2.src)):=bw (by rw[bq,q0i])
 conv=>whnf
 refine Nxt.mp 3 1 c.cl _ _ _ rfl rfl rfl rfl u.o.lt (λho=>?_) (λi e x E Y hn=>?_)
 rotate_left
 focus
  obtain⟨G,rfl⟩:=uQ E;obtain⟨n,Z⟩:=O.step G Y hn;have y:fw c.bs I++ [x]=fw c.bs (I++ [i]):=(pF Y).symm;have B:c.A.length-(I++ [i]).length<c.A.length-I.length:=by have:=n.len;simp only[Z6,q2f]at this⊢;omega
  have hnd:=u.o.nd;have P:=xr (so:=a) (I:=I) G
  have yes:a c.A[i].2=true->((strs ((soV c.A a I).map Prod.fst)++ [AV.ss c.A[i].1]).map mk=strs ((soV c.A a (I++ [i])).map Prod.fst)/\((soV c.A a I).map Prod.fst).length+1=((soV c.A a (I++ [i])).map Prod.fst).length)/\(strs ((soV c.A a I).map λe=>e.2.src)++ [AV.ss c.A[i].2.src]).map mk=strs ((soV c.A a (I++ [i])).map λe=>e.2.src)/\((soV c.A a I).map λe=>e.2.src).length+1=((soV c.A a (I++ [i])).map λe=>e.2.src).length:=λq=>by
   have eV:(soV c.A a (I++ [i])).map Prod.fst=(soV c.A a I).map Prod.fst++ [c.A[i].1]:=by rw[P,if_pos q,q0k];rfl
   have eW:(soV c.A a (I++ [i])).map (λe=>e.2.src)=(soV c.A a I).map (λe=>e.2.src)++ [c.A[i].2.src]:=by rw[P,if_pos q,q0k];rfl
   rw[eV,eW];exact⟨⟨dU _ _,by rw[Z6];rfl⟩,dU _ _,by rw[Z6];rfl⟩
  have no:a c.A[i].2=false->soV c.A a (I++ [i])=soV c.A a I:=λq=>by
   rw[P,q];simp
  clear P
  conv=>whnf
  refine Ent.mp 3 1 c.cl i x (fw c.bs I) (jq kT gR c.A) c.bs _ rfl rfl rfl hnd Y E ?_
  conv=>whnf
  refine ae.sb (λz=>?_) (λz=>?_)
  focus
   have q:=yes (by rw[v];exact decide_eq_true (bj.1 z))
   conv=>whnf
   refine⟨?_,?_,?_,?_,?_,?_,trivial⟩
   focus
    conv=>whnf
    refine bF.grow 1 16 _ _ _ _ _ _ tyT (.old rfl) rfl rfl (.rw rfl C) p ?_
    conv=>whnf
    refine bF.grow 1 16 _ _ _ _ _ _ tyT (.old rfl) rfl rfl (.rw rfl D) t ?_
    conv=>whnf
    refine⟨⟨I++ [i],n⟩,B,?_⟩;refine jU (c:=c) (I:=I++ [i]) (V:=((soV c.A a (I++ [i])).map Prod.fst)) (W:=((soV c.A a (I++ [i])).map λe=>e.2.src)) 13 15 ?_ ?_ ?_ ?_ ?_ ?_ ?_ ?_ ?_ ?_ ?_ ?_ ?_
    ·exact by decide
    ·exact Z3 3
    ·exact rfl
    ·exact ah.de (k:=3) rfl rfl (by decide) (λb w=>by rw[if_neg (by omega),if_neg (by omega)])
    ·exact .rw (by decide) rfl q.1.2
    ·exact .rw (by decide) rfl q.2.2
    ·exact rfl
    ·exact rfl
    ·exact rfl
    ·exact rfl
    ·exact congrArg (λs=>some (AO.iter 1 c.cl s)) y
    ·exact .inl ⟨_,rfl,q.1.1⟩
    ·exact .inl ⟨_,rfl,q.2.1⟩
   focus
    conv=>whnf
    refine bF.grow 1 16 _ _ _ _ _ _ tyT (.old rfl) rfl rfl (.rw rfl C) p ?_
    conv=>whnf
    refine bF.grow 1 16 _ _ _ _ _ _ tyT (.old rfl) rfl rfl (.rw rfl D) t ?_
    conv=>whnf
    refine⟨⟨I++ [i],n⟩,B,?_⟩;refine jU (c:=c) (I:=I++ [i]) (V:=((soV c.A a (I++ [i])).map Prod.fst)) (W:=((soV c.A a (I++ [i])).map λe=>e.2.src)) 13 15 ?_ ?_ ?_ ?_ ?_ ?_ ?_ ?_ ?_ ?_ ?_ ?_ ?_
    ·exact by decide
    ·exact Z3 3
    ·exact rfl
    ·exact ah.de (k:=3) rfl rfl (by decide) (λb w=>by rw[if_neg (by omega),if_neg (by omega)])
    ·exact .rw (by decide) rfl q.1.2
    ·exact .rw (by decide) rfl q.2.2
    ·exact rfl
    ·exact rfl
    ·exact rfl
    ·exact rfl
    ·exact congrArg (λs=>some (AO.iter 1 c.cl s)) y
    ·exact .inl ⟨_,rfl,q.1.1⟩
    ·exact .inl ⟨_,rfl,q.2.1⟩
   focus
    conv=>whnf
    refine bF.grow 1 16 _ _ _ _ _ _ tyT (.old rfl) rfl rfl (.rw rfl C) p ?_
    conv=>whnf
    refine bF.grow 1 16 _ _ _ _ _ _ tyT (.old rfl) rfl rfl (.rw rfl D) t ?_
    conv=>whnf
    refine⟨⟨I++ [i],n⟩,B,?_⟩;refine jU (c:=c) (I:=I++ [i]) (V:=((soV c.A a (I++ [i])).map Prod.fst)) (W:=((soV c.A a (I++ [i])).map λe=>e.2.src)) 14 15 ?_ ?_ ?_ ?_ ?_ ?_ ?_ ?_ ?_ ?_ ?_ ?_ ?_
    ·exact by decide
    ·exact Z3 3
    ·exact rfl
    ·exact ah.de (k:=3) rfl rfl (by decide) (λb w=>by rw[if_neg (by omega),if_neg (by omega)])
    ·exact .rw (by decide) rfl q.1.2
    ·exact .rw (by decide) rfl q.2.2
    ·exact rfl
    ·exact rfl
    ·exact rfl
    ·exact rfl
    ·exact congrArg (λs=>some (AO.iter 1 c.cl s)) y
    ·exact .inl ⟨_,rfl,q.1.1⟩
    ·exact .inl ⟨_,rfl,q.2.1⟩
   focus
    conv=>whnf
    refine bF.grow 1 16 _ _ _ _ _ _ tyT (.old rfl) rfl rfl (.rw rfl C) p ?_
    conv=>whnf
    refine bF.grow 1 16 _ _ _ _ _ _ tyT (.old rfl) rfl rfl (.rw rfl D) t ?_
    conv=>whnf
    refine⟨⟨I++ [i],n⟩,B,?_⟩;refine jU (c:=c) (I:=I++ [i]) (V:=((soV c.A a (I++ [i])).map Prod.fst)) (W:=((soV c.A a (I++ [i])).map λe=>e.2.src)) 13 15 ?_ ?_ ?_ ?_ ?_ ?_ ?_ ?_ ?_ ?_ ?_ ?_ ?_
    ·exact by decide
    ·exact Z3 3
    ·exact rfl
    ·exact ah.de (k:=3) rfl rfl (by decide) (λb w=>by rw[if_neg (by omega),if_neg (by omega)])
    ·exact .rw (by decide) rfl q.1.2
    ·exact .rw (by decide) rfl q.2.2
    ·exact rfl
    ·exact rfl
    ·exact rfl
    ·exact rfl
    ·exact congrArg (λs=>some (AO.iter 1 c.cl s)) y
    ·exact .inl ⟨_,rfl,q.1.1⟩
    ·exact .inl ⟨_,rfl,q.2.1⟩
   focus
    conv=>whnf
    refine bF.grow 1 16 _ _ _ _ _ _ tyT (.old rfl) rfl rfl (.rw rfl C) p ?_
    conv=>whnf
    refine bF.grow 1 16 _ _ _ _ _ _ tyT (.old rfl) rfl rfl (.rw rfl D) t ?_
    conv=>whnf
    refine⟨⟨I++ [i],n⟩,B,?_⟩;refine jU (c:=c) (I:=I++ [i]) (V:=((soV c.A a (I++ [i])).map Prod.fst)) (W:=((soV c.A a (I++ [i])).map λe=>e.2.src)) 14 15 ?_ ?_ ?_ ?_ ?_ ?_ ?_ ?_ ?_ ?_ ?_ ?_ ?_
    ·exact by decide
    ·exact Z3 3
    ·exact rfl
    ·exact ah.de (k:=3) rfl rfl (by decide) (λb w=>by rw[if_neg (by omega),if_neg (by omega)])
    ·exact .rw (by decide) rfl q.1.2
    ·exact .rw (by decide) rfl q.2.2
    ·exact rfl
    ·exact rfl
    ·exact rfl
    ·exact rfl
    ·exact congrArg (λs=>some (AO.iter 1 c.cl s)) y
    ·exact .inl ⟨_,rfl,q.1.1⟩
    ·exact .inl ⟨_,rfl,q.2.1⟩
   focus
    conv=>whnf
    refine bF.grow 1 16 _ _ _ _ _ _ tyT (.old rfl) rfl rfl (.rw rfl C) p ?_
    conv=>whnf
    refine bF.grow 1 16 _ _ _ _ _ _ tyT (.old rfl) rfl rfl (.rw rfl D) t ?_
    conv=>whnf
    refine⟨⟨I++ [i],n⟩,B,?_⟩;refine jU (c:=c) (I:=I++ [i]) (V:=((soV c.A a (I++ [i])).map Prod.fst)) (W:=((soV c.A a (I++ [i])).map λe=>e.2.src)) 14 15 ?_ ?_ ?_ ?_ ?_ ?_ ?_ ?_ ?_ ?_ ?_ ?_ ?_
    ·exact by decide
    ·exact Z3 3
    ·exact rfl
    ·exact ah.de (k:=3) rfl rfl (by decide) (λb w=>by rw[if_neg (by omega),if_neg (by omega)])
    ·exact .rw (by decide) rfl q.1.2
    ·exact .rw (by decide) rfl q.2.2
    ·exact rfl
    ·exact rfl
    ·exact rfl
    ·exact rfl
    ·exact congrArg (λs=>some (AO.iter 1 c.cl s)) y
    ·exact .inl ⟨_,rfl,q.1.1⟩
    ·exact .inl ⟨_,rfl,q.2.1⟩
  have q:=no (by rw[v];exact decide_eq_false λe=>by rw[bj.2 e]at z;cases z)
  conv=>whnf
  refine⟨⟨I++ [i],n⟩,B,?_⟩;refine jU (c:=c) (I:=I++ [i]) (V:=((soV c.A a (I++ [i])).map Prod.fst)) (W:=((soV c.A a (I++ [i])).map λe=>e.2.src)) 8 9 ?_ ?_ ?_ ?_ ?_ ?_ ?_ ?_ ?_ ?_ ?_ ?_ ?_
  ·exact by decide
  ·exact Z3 3
  ·exact rfl
  ·exact ah.de (k:=3) rfl rfl (by decide) (λb w=>by rw[if_neg (by omega),if_neg (by omega)])
  ·exact .rw (by decide) rfl (by rw[q])
  ·exact .rw (by decide) rfl (by rw[q])
  ·exact rfl
  ·exact rfl
  ·exact rfl
  ·exact rfl
  ·exact congrArg (λs=>some (AO.iter 1 c.cl s)) y
  ·exact .inl ⟨_,rfl,by rw[q];exact dd _⟩
  ·exact .inl ⟨_,rfl,by rw[q];exact dd _⟩
 have hd:∀e∈c.A,e.2.dst=e.1:=λe E=>u.dst e (by rw[<-u.A];exact E)
 obtain⟨p1,p2⟩:=O.uu u.o.nd u.o.len ho;have pp:(soV c.A a I).Perm (c.A.filter λe=>a e.2):=p1.filter _;have eN:=im (pp.map Prod.fst);have eS:=im (pp.map λe=>e.2.src);have lV:((soV c.A a I).map Prod.fst).length<=1000000:=by rw[Y0];omega
 have lW:((soV c.A a I).map λe=>e.2.src).length<=1000000:=by rw[Y0];omega
 obtain⟨N,Q⟩:∃N,N=aH ((soV c.A a I).map Prod.fst):=⟨_,rfl⟩;obtain⟨S,hS⟩:∃S,S=aH ((soV c.A a I).map λe=>e.2.src):=⟨_,rfl⟩;have lN:N.length<=1000:=by rw[Q];have:=dh ((soV c.A a I).map Prod.fst);rw[Y0]at this;omega
 have lS:S.length<=1000:=by rw[hS];have:=dh ((soV c.A a I).map λe=>e.2.src);rw[Y0]at this;omega
 have gN:∀d∈N,∃r,aL c.A d=some r:=λd hd=>by
  rw[Q,(bf _).2,q0m]at hd;obtain⟨e,E,rfl⟩:=hd;exact⟨e.2,eI u.o.key (A5 (q0v.1 E).1)⟩
 have fin:S.flatMap (pkS N c.A)=pkF c.A a:=by rw[Q,hS,eN,eS];rfl
 have vN:AV.fr N.length 1 (strs N)= .fr (aH ((soV c.A a I).map Prod.fst)).length 1 (strs (aH ((soV c.A a I).map Prod.fst))):=by rw[Q]
 have vS:AV.fr S.length 1 (strs S)= .fr (aH ((soV c.A a I).map λe=>e.2.src)).length 1 (strs (aH ((soV c.A a I).map λe=>e.2.src))):=by rw[hS]
 clear eN eS pp
 conv=>whnf
 refine⟨_,.fr N.length 1 (strs N),_,.cons (.row (l:=strs ((soV c.A a I).map Prod.fst)) (z:=true) rfl (b6 _) (by rw[bq,q0i]) rfl) .nil,⟨_,rfl,lV,vN⟩,?_⟩
 conv=>whnf
 refine⟨_,.fr S.length 1 (strs S),_,.cons (.row (l:=strs ((soV c.A a I).map λe=>e.2.src)) (z:=true) rfl (b6 _) (by rw[bq,q0i]) rfl) .nil,⟨_,rfl,lW,vS⟩,?_⟩;have lP:∀(M:List Tx) (s:Tx),(pkS M c.A s).length<=M.length:=λM s=>by unfold pkS;rw[Y0];exact nE _
 have lL:∀i,((S.take i).flatMap (pkS N c.A)).length<=1000000:=λi=>by
  have h1:=uU (L:=S.take i) (f:=pkS N c.A) (b:=1000) λs _=>X9 (lP N s) lN
  have h2:(S.take i).length<=1000:=X9 (by rw[Y7];exact Nat.min_le_right _ _) lS;omega
 conv=>whnf
 refine aR.mk {i:Nat//i<=S.length} 9 (λi=>Ui k c N S ((S.take i.val).flatMap (pkS N c.A)) i.val) (λi=>S.length-i.val) ⟨0,X5 _⟩ ?_ ?_
 focus
  exact DI (c:=c) (N:=N) (S:=S) (L:=(S.take 0).flatMap (pkS N c.A)) (i:=0) 10 (by decide) (Z3 3) rfl rfl (.iP rfl) rfl rfl rfl rfl rfl rfl (.inr ⟨rfl,by decide⟩)
 intro⟨i,Z⟩;have Z:i<=S.length:=Z;have hw:IntKind.i64.wrap ((i:Int)+1)=((i+1:Nat):Int):=by rw[al (by omega) (by omega)];omega
 have lLi:=lL i
 conv=>whnf
 refine ae.dec (λh=>?_) (λh=>?_)
 focus
  have T:i<S.length:=q0o.1 h;have e3:(S.take (i+1)).flatMap (pkS N c.A)=(S.take i).flatMap (pkS N c.A)++pkS N c.A S[i]:=by rw[X8 T,List.flatMap_append];simp
  conv=>whnf
  refine Idx.mk i rfl T ?_
  conv=>whnf
  refine aw (gm T (q0i _)) ?_
  conv=>whnf
  refine aR.mk {j:Nat//j<=N.length} 9 (λj=>Uj k c N S ((S.take i).flatMap (pkS N c.A)++pkS (N.take j.val) c.A S[i]) S[i] i j.val) (λj=>N.length-j.val) ⟨0,X5 _⟩ ?_ ?_
  focus
   exact xt (c:=c) (N:=N) (S:=S) (L:=(S.take i).flatMap (pkS N c.A)++pkS (N.take 0) c.A S[i]) (s:=S[i]) (i:=i) (j:=0) 8 (by decide) (Z3 3) rfl rfl (.rw (by decide) rfl (by rw[Z6];rfl)) rfl rfl rfl rfl rfl rfl rfl rfl rfl rfl (.inl ⟨_,rfl,by rw[dB];exact congrArg ruL (q0w _).symm⟩)
  intro⟨j,hj⟩;have hj:j<=N.length:=hj;have H:IntKind.i64.wrap ((j:Int)+1)=((j+1:Nat):Int):=by rw[al (by omega) (by omega)];omega
  obtain⟨L,J⟩:∃L,L=(S.take i).flatMap (pkS N c.A)++pkS (N.take j) c.A S[i]:=⟨_,rfl⟩
  have bL:L.length<=1001000:=by
   have h1:=lP (N.take j) S[i];rw[Y7]at h1;rw[J,Z6];omega
  rw[<-J]
  conv=>whnf
  refine ae.dec (λh=>?_) (λh=>?_)
  focus
   have F:j<N.length:=q0o.1 h;obtain⟨r,hr⟩:=gN N[j] (q0b F);have er:rul c.A N[j]=r:=by unfold rul;rw[hr];rfl
   have U:=xq (R:=c.A) (s:=S[i]) F;rw[er]at U;have K:N.length-(j+1)<N.length-j:=by omega
   have y1:dw r.src S[i]=true->L++ [r]=(S.take i).flatMap (pkS N c.A)++pkS (N.take (j+1)) c.A S[i]:=λq=>by rw[U,if_pos (bj.1 q),J,q0h]
   have y0:dw r.src S[i]=false->L=(S.take i).flatMap (pkS N c.A)++pkS (N.take (j+1)) c.A S[i]:=λq=>by
    have:r.src≠S[i]:=λe=>by rw[bj.2 e]at q;cases q
    rw[U,if_neg this,q0w,J]
   have hsL:bk (ruL L) 0 (L.length*5)=some (ruL L):=bw (jr L);have hbL:(L.length+1)*56<=140737488355328:=by omega
   clear U
   conv=>whnf
   refine Idx.mk j rfl F ?_
   conv=>whnf
   refine aw (gm F (q0i _)) ?_
   conv=>whnf
   refine Ask.mk _ (aZ (m:=c) (g:=gR) (k:=N[j]) bQ mkR rfl rfl rfl lk hr) ?_
   conv=>whnf
   refine ae.sb (λz=>?_) (λz=>?_)
   focus
    have q:=y1 z
    conv=>whnf
    refine Ask.mk _ (aZ (m:=c) (g:=gR) (k:=N[j]) bQ mkR rfl rfl rfl lk hr) ?_
    conv=>whnf
    refine bF.grow 5 56 _ _ _ _ _ _ Ud (.old rfl) rfl rfl (.rw rfl hsL) hbL ?_
    conv=>whnf
    exact⟨⟨j+1,F⟩,K,xt (c:=c) (N:=N) (S:=S) (L:=(S.take i).flatMap (pkS N c.A)++pkS (N.take (j+1)) c.A S[i]) (s:=S[i]) (i:=i) (j:=j+1) 10 (by decide) (Z3 3) rfl rfl (.rw (by decide) rfl (by rw[<-q,Z6];rfl)) rfl rfl rfl rfl rfl rfl (congrArg (AV.si .i64) H) rfl rfl rfl (.inl ⟨_,rfl,by rw[<-q];exact xp L r⟩)⟩
   have q:=y0 z
   conv=>whnf
   exact⟨⟨j+1,F⟩,K,xt (c:=c) (N:=N) (S:=S) (L:=(S.take i).flatMap (pkS N c.A)++pkS (N.take (j+1)) c.A S[i]) (s:=S[i]) (i:=i) (j:=j+1) 8 (by decide) (Z3 3) rfl rfl (.rw (by decide) rfl (by rw[<-q])) rfl rfl rfl rfl rfl rfl (congrArg (AV.si .i64) H) rfl rfl rfl (.inl ⟨_,rfl,by rw[<-q];exact dB L⟩)⟩
  have ej:j=N.length:=by have h:¬(j:Int)<(N.length:Int):=h;omega
  have eL:L=(S.take (i+1)).flatMap (pkS N c.A):=by rw[J,ej,q0e,e3]
  conv=>whnf
  exact⟨⟨i+1,T⟩,by show S.length-(i+1)<S.length-i;omega,DI (c:=c) (N:=N) (S:=S) (L:=(S.take (i+1)).flatMap (pkS N c.A)) (i:=i+1) 8 (by decide) (Z3 3) rfl rfl (.rw (by decide) rfl (by rw[eL])) rfl rfl (congrArg (AV.si .i64) hw) rfl rfl rfl (.inl ⟨_,rfl,by rw[eL];exact dB _⟩)⟩
 have ei:i=S.length:=by have h:¬(i:Int)<(S.length:Int):=h;omega
 have eF:(S.take i).flatMap (pkS N c.A)=pkF c.A a:=by rw[ei,q0e,fin]
 conv=>whnf
 exact⟨_,c,Re.Ub rfl (congrArg List.length eF) rfl (iU _) (jr _) (by rw[eF]),u,mI rfl rfl⟩
def ll(A:Gr)(L:List Rl):Gr:=L.foldl (λA r=>dt A r.dst) A
theorem FE{A:Gr}{L:List Rl}{i:Nat}(h:i<L.length):ll A (L.take (i+1))=dt (ll A (L.take i)) L[i].dst:=by
 unfold ll;rw[X8 h,q2t];rfl
theorem rZ{K V:Type} [DecidableEq K]{A:List (K×V)}{k:K}{e:K×V}(h:e∈dt A k):e∈A:=by
 unfold dt at h;split at h
 ·exact h
 ·exact List.mem_of_mem_eraseIdx h
theorem tp:∀{L:List Rl} {A:Gr} {e:Tx×Rl},e∈ll A L->e∈A
 | [],_,_,h=>h
 |r::L,A,e,h=>rZ (tp (L:=L) (A:=dt A r.dst) h)
def KGo:FuncId->EP:=bb 69 [] KPk
theorem Uk:aU KGo:=au A6 (by kernel_rfl) (by kernel_rfl)
def FF (k:Tx) (c:GrC) (I:List Nat) (V:List Tx) (W:List Tx):AE×AH:=(mkE [(0,.ptr 0 (0)),(1,AV.fn 128 [] [.ptr 2 0]),(5,.rw 8 0 V.length 1 0),(6,.rw 9 0 W.length 1 0),(20,.ptr 3 (0))],mkH [(0,.cells [.map 1] true),(1,c.O kT gR),(2,.cells [.ss k] true),(3,AO.iter 1 c.cl (fw c.bs I)),(8,.cells (strs (V)) true),(9,.cells (strs (W)) true)])
theorem cH{k:Tx}{c:GrC}{I:List Nat}{V:List Tx}{W:List Tx}{p n:Nat}{σ:AE}{H:AH}(a:Nat)(d:Nat)(B:a≠0/\a≠1/\a≠2/\a≠3/\a≠d/\d≠0/\d≠1/\d≠2/\d≠3)(C:p<=3)(m:aj (pa 0) σ= .ptr 0 (0))(o:ah H 10 (λb=>if b=8 then a else if b=9 then d else b) (aj (pa 1) σ) (AV.fn 128 [] [.ptr 2 0]))(r:ah H 10 (λb=>if b=8 then a else if b=9 then d else b) (aj (pa 5) σ) (.rw 8 0 V.length 1 0))(s:ah H 10 (λb=>if b=8 then a else if b=9 then d else b) (aj (pa 6) σ) (.rw 9 0 W.length 1 0))(f:aj (pa 20) σ= .ptr 3 (0))(t:H.get 0=some (.cells [.map 1] true))(u:H.get 1=some (c.O kT gR))(v:H.get 2=some (.cells [.ss k] true))(w:H.get 3=some (AO.iter 1 c.cl (fw c.bs I)))(z:(∃l,H.get a=some (.cells l true)/\l.map mk=strs (V))∨((V)=[]/\n<=a))(A:(∃l,H.get d=some (.cells l true)/\l.map mk=strs (W))∨((W)=[]/\n<=d)):Cov p σ H n ((FF k c I V W).1,(FF k c I V W).2,10):=
 Cov.ofB (λb=>if b=8 then a else if b=9 then d else b) (by omega) (λb e=>by repeat' rw[if_neg (by omega)]) ⟨.ptr (by decide) m,o,r,s,.ptr (by decide) f,trivial⟩ ⟨.inl ⟨_,t,ao.b7 (k:=2) rfl (by decide) (λb e=>by rw[if_neg (by omega),if_neg (by omega)])⟩,.inl ⟨_,u,ao.b7 (k:=0) (bl dQ nQ) (by decide) (λb e=>absurd e (q0f b))⟩,.inl ⟨_,v,ao.b7 (k:=0) rfl (by decide) (λb e=>absurd e (q0f b))⟩,.inl ⟨_,w,ao.HL (by decide) rfl⟩,z.elim (λ⟨l,h,g⟩=> .inl ⟨_,h,ao.bA (b6 _) (by rw[g,dd]) (λq=>q)⟩) (λh=> .inr ⟨by rw[h.1];rfl,h.2⟩),A.elim (λ⟨l,h,g⟩=> .inl ⟨_,h,ao.bA (b6 _) (by rw[g,dd]) (λq=>q)⟩) (λh=> .inr ⟨by rw[h.1];rfl,h.2⟩),trivial⟩ rfl (λx i y j=>by simp only[Z4,Z5,or_false]at i j;rcases i with rfl|rfl|rfl|rfl|rfl|rfl<;>rcases j with rfl|rfl|rfl|rfl|rfl|rfl<;>simp<;>omega)
def FG (k:Tx) (c:GrC) (N:List Tx) (S:List Tx) (L:List Rl) (i:Nat):AE×AH:=(mkE [(0,.ptr 0 (0)),(5,.fr N.length 1 (strs N)),(9,AV.rw 8 0 L.length 5 0),(41,.fr S.length 1 (strs S)),(42,.si .i64 ((S.length:Int))),(43,.si .i64 ((i:Int)))],mkH [(0,.cells [.map 1] true),(1,c.O kT gR),(2,.cells [.ss k] true),(8,.cells (ruL (L)) true)])
theorem xu{k:Tx}{c:GrC}{N:List Tx}{S:List Tx}{L:List Rl}{i:Nat}{p n:Nat}{σ:AE}{H:AH}(a:Nat)(A:a≠0/\a≠1/\a≠2)(B:p<=3)(r:aj (pa 0) σ= .ptr 0 (0))(s:aj (pa 5) σ= .fr N.length 1 (strs N))(t:ah H 9 (λb=>if b=8 then a else b) (aj (pa 9) σ) (AV.rw 8 0 L.length 5 0))(e:aj (pa 41) σ= .fr S.length 1 (strs S))(f:mk (aj (pa 42) σ)= .si .i64 ((S.length:Int)))(j:mk (aj (pa 43) σ)= .si .i64 ((i:Int)))(u:H.get 0=some (.cells [.map 1] true))(v:H.get 1=some (c.O kT gR))(w:H.get 2=some (.cells [.ss k] true))(z:(∃l,H.get a=some (.cells l true)/\l.map mk=ruL (L))∨((L)=[]/\n<=a)):Cov p σ H n ((FG k c N S L i).1,(FG k c N S L i).2,9):=
 Cov.ofB (λb=>if b=8 then a else b) (by omega) (λb d=>by repeat' rw[if_neg (by omega)]) ⟨.ptr (by decide) r,ah.frE s,t,ah.frE e,.int f,.int j,trivial⟩ ⟨.inl ⟨_,u,ao.b7 (k:=2) rfl (by decide) (λb d=>by rw[if_neg (by omega)])⟩,.inl ⟨_,v,ao.b7 (k:=0) (bl dQ nQ) (by decide) (λb d=>absurd d (q0f b))⟩,.inl ⟨_,w,ao.b7 (k:=0) rfl (by decide) (λb d=>absurd d (q0f b))⟩,z.elim (λ⟨l,h,g⟩=> .inl ⟨_,h,ao.bA (iU _) (by rw[g,dB]) (λq=>q)⟩) (λh=> .inr ⟨by rw[h.1];rfl,h.2⟩),trivial⟩ rfl (λx m y o=>by simp only[Z4,Z5,or_false]at m o;rcases m with rfl|rfl|rfl|rfl<;>rcases o with rfl|rfl|rfl|rfl<;>simp<;>omega)
def FH (k:Tx) (c:GrC) (N:List Tx) (S:List Tx) (L:List Rl) (s:Tx) (i:Nat) (j:Nat):AE×AH:=(mkE [(0,.ptr 0 (0)),(5,.fr N.length 1 (strs N)),(9,AV.rw 8 0 L.length 5 0),(11,.ss (s)),(41,.fr S.length 1 (strs S)),(42,.si .i64 ((S.length:Int))),(43,.si .i64 ((i:Int))),(47,.fr N.length 1 (strs N)),(48,.si .i64 ((N.length:Int))),(49,.si .i64 ((j:Int)))],mkH [(0,.cells [.map 1] true),(1,c.O kT gR),(2,.cells [.ss k] true),(8,.cells (ruL (L)) true)])
theorem qN{k:Tx}{c:GrC}{N:List Tx}{S:List Tx}{L:List Rl}{s:Tx}{i:Nat}{j:Nat}{p n:Nat}{σ:AE}{H:AH}(a:Nat)(G:a≠0/\a≠1/\a≠2)(I:p<=3)(z:aj (pa 0) σ= .ptr 0 (0))(A:aj (pa 5) σ= .fr N.length 1 (strs N))(B:ah H 9 (λb=>if b=8 then a else b) (aj (pa 9) σ) (AV.rw 8 0 L.length 5 0))(e:mk (aj (pa 11) σ)= .ss (s))(f:aj (pa 41) σ= .fr S.length 1 (strs S))(m:mk (aj (pa 42) σ)= .si .i64 ((S.length:Int)))(o:mk (aj (pa 43) σ)= .si .i64 ((i:Int)))(r:aj (pa 47) σ= .fr N.length 1 (strs N))(t:mk (aj (pa 48) σ)= .si .i64 ((N.length:Int)))(u:mk (aj (pa 49) σ)= .si .i64 ((j:Int)))(C:H.get 0=some (.cells [.map 1] true))(D:H.get 1=some (c.O kT gR))(E:H.get 2=some (.cells [.ss k] true))(F:(∃l,H.get a=some (.cells l true)/\l.map mk=ruL (L))∨((L)=[]/\n<=a)):Cov p σ H n ((FH k c N S L s i j).1,(FH k c N S L s i j).2,9):=
 Cov.ofB (λb=>if b=8 then a else b) (by omega) (λb d=>by repeat' rw[if_neg (by omega)]) ⟨.ptr (by decide) z,ah.frE A,B,.str e,ah.frE f,.int m,.int o,ah.frE r,.int t,.int u,trivial⟩ ⟨.inl ⟨_,C,ao.b7 (k:=2) rfl (by decide) (λb d=>by rw[if_neg (by omega)])⟩,.inl ⟨_,D,ao.b7 (k:=0) (bl dQ nQ) (by decide) (λb d=>absurd d (q0f b))⟩,.inl ⟨_,E,ao.b7 (k:=0) rfl (by decide) (λb d=>absurd d (q0f b))⟩,F.elim (λ⟨l,h,g⟩=> .inl ⟨_,h,ao.bA (iU _) (by rw[g,dB]) (λq=>q)⟩) (λh=> .inr ⟨by rw[h.1];rfl,h.2⟩),trivial⟩ rfl (λx v y w=>by simp only[Z4,Z5,or_false]at v w;rcases v with rfl|rfl|rfl|rfl<;>rcases w with rfl|rfl|rfl|rfl<;>simp<;>omega)
def grG (k:Tx) (c:GrC) (L:List Rl) (i:Nat):AE×AH:=(mkE [(0,.ptr 0 (0)),(5,.rw 8 0 L.length 5 0),(11,.rw 8 0 L.length 5 0),(12,.si .i64 ((L.length:Int))),(13,.si .i64 ((i:Int)))],mkH [(0,.cells [.map 1] true),(1,c.O kT gR),(2,.cells [.ss k] true),(8,.cells (ruL (L)) true)])
theorem HN{k:Tx}{c:GrC}{L:List Rl}{i:Nat}{p n:Nat}{σ:AE}{H:AH}(a:Nat)(z:a≠0/\a≠1/\a≠2)(A:p<=3)(r:aj (pa 0) σ= .ptr 0 (0))(s:ah H 9 (λb=>if b=8 then a else b) (aj (pa 5) σ) (.rw 8 0 L.length 5 0))(e:ah H 9 (λb=>if b=8 then a else b) (aj (pa 11) σ) (.rw 8 0 L.length 5 0))(f:mk (aj (pa 12) σ)= .si .i64 ((L.length:Int)))(j:mk (aj (pa 13) σ)= .si .i64 ((i:Int)))(t:H.get 0=some (.cells [.map 1] true))(u:H.get 1=some (c.O kT gR))(v:H.get 2=some (.cells [.ss k] true))(w:(∃l,H.get a=some (.cells l true)/\l.map mk=ruL (L))∨((L)=[]/\n<=a)):Cov p σ H n ((grG k c L i).1,(grG k c L i).2,9):=
 Cov.ofB (λb=>if b=8 then a else b) (by omega) (λb d=>by repeat' rw[if_neg (by omega)]) ⟨.ptr (by decide) r,s,e,.int f,.int j,trivial⟩ ⟨.inl ⟨_,t,ao.b7 (k:=2) rfl (by decide) (λb d=>by rw[if_neg (by omega)])⟩,.inl ⟨_,u,ao.b7 (k:=0) (bl dQ nQ) (by decide) (λb d=>absurd d (q0f b))⟩,.inl ⟨_,v,ao.b7 (k:=0) rfl (by decide) (λb d=>absurd d (q0f b))⟩,w.elim (λ⟨l,h,g⟩=> .inl ⟨_,h,ao.bA (iU _) (by rw[g,dB]) (λq=>q)⟩) (λh=> .inr ⟨by rw[h.1];rfl,h.2⟩),trivial⟩ rfl (λx m y o=>by simp only[Z4,Z5,or_false]at m o;rcases m with rfl|rfl|rfl|rfl<;>rcases o with rfl|rfl|rfl|rfl<;>simp<;>omega)
theorem FI(x:Gr)(k:Tx)(c:GrC)(B:J4 x c)(h1000:c.A.length<=1000):ax KGo 5 69 [.ptr 0 0,.ss k] (mkH (bH (grO c) 0)) 2 (gi GrB (ll c.A (pkF c.A (λr=>decide (r.src=k)||decide (r.dst=k)))) (.si .i64 (pkF c.A (λr=>decide (r.src=k)||decide (r.dst=k))).length)):=by
 obtain⟨a,F⟩:∃a:Rl->Bool,a=λr=>decide (r.src=k)||decide (r.dst=k):=⟨_,rfl⟩
 rw[<-F]
 conv=>whnf
 refine aR.mk {I:List Nat//RgI c I} 10 (λI=>FF k c I.val ((soV c.A a I.val).map Prod.fst) ((soV c.A a I.val).map λe=>e.2.src)) (λI=>c.A.length-I.val.length) ⟨[],.nil⟩ ?_ ?_
 focus
  exact cH (c:=c) (I:=[]) (V:=((soV c.A a []).map Prod.fst)) (W:=((soV c.A a []).map λe=>e.2.src)) 8 9 (by decide) (Z3 3) rfl (ah.de (k:=3) rfl rfl (by decide) (λb w=>by rw[if_neg (by omega),if_neg (by omega)])) (.iP rfl) (.iP rfl) rfl rfl rfl rfl rfl (.inr ⟨rfl,by decide⟩) (.inr ⟨rfl,by decide⟩)
 intro⟨I,X⟩;have hIl:=X.len;have hle:(soV c.A a I).length<=I.length:=X9 (nE _) (Nat.le_of_eq (uS X));have p:(((soV c.A a I).map Prod.fst).length+1)*16<=140737488355328:=by rw[Y0];omega
 have u:(((soV c.A a I).map λe=>e.2.src).length+1)*16<=140737488355328:=by rw[Y0];omega
 have C:bk (strs ((soV c.A a I).map Prod.fst)) 0 (((soV c.A a I).map Prod.fst).length*1)=some (strs ((soV c.A a I).map Prod.fst)):=bw (by rw[bq,q0i]);have D:bk (strs ((soV c.A a I).map λe=>e.2.src)) 0 (((soV c.A a I).map λe=>e.2.src).length*1)=some (strs ((soV c.A a I).map λe=>e.2.src)):=bw (by rw[bq,q0i])
 conv=>whnf
 refine Nxt.mp 3 1 c.cl _ _ _ rfl rfl rfl rfl B.o.lt (λho=>?_) (λi e x E hx hn=>?_)
 rotate_left
 focus
  obtain⟨P,rfl⟩:=uQ E;obtain⟨n,hi⟩:=X.step P hx hn;have y:fw c.bs I++ [x]=fw c.bs (I++ [i]):=(pF hx).symm;have v:c.A.length-(I++ [i]).length<c.A.length-I.length:=by have:=n.len;simp only[Z6,q2f]at this⊢;omega
  have hnd:=B.o.nd;have Y:=xr (so:=a) (I:=I) P
  have yes:a c.A[i].2=true->((strs ((soV c.A a I).map Prod.fst)++ [AV.ss c.A[i].1]).map mk=strs ((soV c.A a (I++ [i])).map Prod.fst)/\((soV c.A a I).map Prod.fst).length+1=((soV c.A a (I++ [i])).map Prod.fst).length)/\(strs ((soV c.A a I).map λe=>e.2.src)++ [AV.ss c.A[i].2.src]).map mk=strs ((soV c.A a (I++ [i])).map λe=>e.2.src)/\((soV c.A a I).map λe=>e.2.src).length+1=((soV c.A a (I++ [i])).map λe=>e.2.src).length:=λq=>by
   have eV:(soV c.A a (I++ [i])).map Prod.fst=(soV c.A a I).map Prod.fst++ [c.A[i].1]:=by rw[Y,if_pos q,q0k];rfl
   have eW:(soV c.A a (I++ [i])).map (λe=>e.2.src)=(soV c.A a I).map (λe=>e.2.src)++ [c.A[i].2.src]:=by rw[Y,if_pos q,q0k];rfl
   rw[eV,eW];exact⟨⟨dU _ _,by rw[Z6];rfl⟩,dU _ _,by rw[Z6];rfl⟩
  have no:a c.A[i].2=false->soV c.A a (I++ [i])=soV c.A a I:=λq=>by
   rw[Y,q];simp
  clear Y
  conv=>whnf
  refine Ent.mp 3 1 c.cl i x (fw c.bs I) (jq kT gR c.A) c.bs _ rfl rfl rfl hnd hx E ?_
  conv=>whnf
  refine ae.sb (λz=>?_) (λz=>?_)
  focus
   have q:=yes (by rw[F];show(decide _||decide _)=true;rw[decide_eq_true (bj.1 z)];rfl)
   conv=>whnf
   refine⟨?_,?_,?_,?_,?_,?_,trivial⟩
   focus
    conv=>whnf
    refine bF.grow 1 16 _ _ _ _ _ _ tyT (.old rfl) rfl rfl (.rw rfl C) p ?_
    conv=>whnf
    refine bF.grow 1 16 _ _ _ _ _ _ tyT (.old rfl) rfl rfl (.rw rfl D) u ?_
    conv=>whnf
    refine⟨⟨I++ [i],n⟩,v,?_⟩;refine cH (c:=c) (I:=I++ [i]) (V:=((soV c.A a (I++ [i])).map Prod.fst)) (W:=((soV c.A a (I++ [i])).map λe=>e.2.src)) 13 15 ?_ ?_ ?_ ?_ ?_ ?_ ?_ ?_ ?_ ?_ ?_ ?_ ?_
    ·exact by decide
    ·exact Z3 3
    ·exact rfl
    ·exact ah.de (k:=3) rfl rfl (by decide) (λb w=>by rw[if_neg (by omega),if_neg (by omega)])
    ·exact .rw (by decide) rfl q.1.2
    ·exact .rw (by decide) rfl q.2.2
    ·exact rfl
    ·exact rfl
    ·exact rfl
    ·exact rfl
    ·exact congrArg (λs=>some (AO.iter 1 c.cl s)) y
    ·exact .inl ⟨_,rfl,q.1.1⟩
    ·exact .inl ⟨_,rfl,q.2.1⟩
   focus
    conv=>whnf
    refine bF.grow 1 16 _ _ _ _ _ _ tyT (.old rfl) rfl rfl (.rw rfl C) p ?_
    conv=>whnf
    refine bF.grow 1 16 _ _ _ _ _ _ tyT (.old rfl) rfl rfl (.rw rfl D) u ?_
    conv=>whnf
    refine⟨⟨I++ [i],n⟩,v,?_⟩;refine cH (c:=c) (I:=I++ [i]) (V:=((soV c.A a (I++ [i])).map Prod.fst)) (W:=((soV c.A a (I++ [i])).map λe=>e.2.src)) 13 15 ?_ ?_ ?_ ?_ ?_ ?_ ?_ ?_ ?_ ?_ ?_ ?_ ?_
    ·exact by decide
    ·exact Z3 3
    ·exact rfl
    ·exact ah.de (k:=3) rfl rfl (by decide) (λb w=>by rw[if_neg (by omega),if_neg (by omega)])
    ·exact .rw (by decide) rfl q.1.2
    ·exact .rw (by decide) rfl q.2.2
    ·exact rfl
    ·exact rfl
    ·exact rfl
    ·exact rfl
    ·exact congrArg (λs=>some (AO.iter 1 c.cl s)) y
    ·exact .inl ⟨_,rfl,q.1.1⟩
    ·exact .inl ⟨_,rfl,q.2.1⟩
   focus
    conv=>whnf
    refine bF.grow 1 16 _ _ _ _ _ _ tyT (.old rfl) rfl rfl (.rw rfl C) p ?_
    conv=>whnf
    refine bF.grow 1 16 _ _ _ _ _ _ tyT (.old rfl) rfl rfl (.rw rfl D) u ?_
    conv=>whnf
    refine⟨⟨I++ [i],n⟩,v,?_⟩;refine cH (c:=c) (I:=I++ [i]) (V:=((soV c.A a (I++ [i])).map Prod.fst)) (W:=((soV c.A a (I++ [i])).map λe=>e.2.src)) 14 15 ?_ ?_ ?_ ?_ ?_ ?_ ?_ ?_ ?_ ?_ ?_ ?_ ?_
    ·exact by decide
    ·exact Z3 3
    ·exact rfl
    ·exact ah.de (k:=3) rfl rfl (by decide) (λb w=>by rw[if_neg (by omega),if_neg (by omega)])
    ·exact .rw (by decide) rfl q.1.2
    ·exact .rw (by decide) rfl q.2.2
    ·exact rfl
    ·exact rfl
    ·exact rfl
    ·exact rfl
    ·exact congrArg (λs=>some (AO.iter 1 c.cl s)) y
    ·exact .inl ⟨_,rfl,q.1.1⟩
    ·exact .inl ⟨_,rfl,q.2.1⟩
   focus
    conv=>whnf
    refine bF.grow 1 16 _ _ _ _ _ _ tyT (.old rfl) rfl rfl (.rw rfl C) p ?_
    conv=>whnf
    refine bF.grow 1 16 _ _ _ _ _ _ tyT (.old rfl) rfl rfl (.rw rfl D) u ?_
    conv=>whnf
    refine⟨⟨I++ [i],n⟩,v,?_⟩;refine cH (c:=c) (I:=I++ [i]) (V:=((soV c.A a (I++ [i])).map Prod.fst)) (W:=((soV c.A a (I++ [i])).map λe=>e.2.src)) 13 15 ?_ ?_ ?_ ?_ ?_ ?_ ?_ ?_ ?_ ?_ ?_ ?_ ?_
    ·exact by decide
    ·exact Z3 3
    ·exact rfl
    ·exact ah.de (k:=3) rfl rfl (by decide) (λb w=>by rw[if_neg (by omega),if_neg (by omega)])
    ·exact .rw (by decide) rfl q.1.2
    ·exact .rw (by decide) rfl q.2.2
    ·exact rfl
    ·exact rfl
    ·exact rfl
    ·exact rfl
    ·exact congrArg (λs=>some (AO.iter 1 c.cl s)) y
    ·exact .inl ⟨_,rfl,q.1.1⟩
    ·exact .inl ⟨_,rfl,q.2.1⟩
   focus
    conv=>whnf
    refine bF.grow 1 16 _ _ _ _ _ _ tyT (.old rfl) rfl rfl (.rw rfl C) p ?_
    conv=>whnf
    refine bF.grow 1 16 _ _ _ _ _ _ tyT (.old rfl) rfl rfl (.rw rfl D) u ?_
    conv=>whnf
    refine⟨⟨I++ [i],n⟩,v,?_⟩;refine cH (c:=c) (I:=I++ [i]) (V:=((soV c.A a (I++ [i])).map Prod.fst)) (W:=((soV c.A a (I++ [i])).map λe=>e.2.src)) 14 15 ?_ ?_ ?_ ?_ ?_ ?_ ?_ ?_ ?_ ?_ ?_ ?_ ?_
    ·exact by decide
    ·exact Z3 3
    ·exact rfl
    ·exact ah.de (k:=3) rfl rfl (by decide) (λb w=>by rw[if_neg (by omega),if_neg (by omega)])
    ·exact .rw (by decide) rfl q.1.2
    ·exact .rw (by decide) rfl q.2.2
    ·exact rfl
    ·exact rfl
    ·exact rfl
    ·exact rfl
    ·exact congrArg (λs=>some (AO.iter 1 c.cl s)) y
    ·exact .inl ⟨_,rfl,q.1.1⟩
    ·exact .inl ⟨_,rfl,q.2.1⟩
   focus
    conv=>whnf
    refine bF.grow 1 16 _ _ _ _ _ _ tyT (.old rfl) rfl rfl (.rw rfl C) p ?_
    conv=>whnf
    refine bF.grow 1 16 _ _ _ _ _ _ tyT (.old rfl) rfl rfl (.rw rfl D) u ?_
    conv=>whnf
    refine⟨⟨I++ [i],n⟩,v,?_⟩;refine cH (c:=c) (I:=I++ [i]) (V:=((soV c.A a (I++ [i])).map Prod.fst)) (W:=((soV c.A a (I++ [i])).map λe=>e.2.src)) 14 15 ?_ ?_ ?_ ?_ ?_ ?_ ?_ ?_ ?_ ?_ ?_ ?_ ?_
    ·exact by decide
    ·exact Z3 3
    ·exact rfl
    ·exact ah.de (k:=3) rfl rfl (by decide) (λb w=>by rw[if_neg (by omega),if_neg (by omega)])
    ·exact .rw (by decide) rfl q.1.2
    ·exact .rw (by decide) rfl q.2.2
    ·exact rfl
    ·exact rfl
    ·exact rfl
    ·exact rfl
    ·exact congrArg (λs=>some (AO.iter 1 c.cl s)) y
    ·exact .inl ⟨_,rfl,q.1.1⟩
    ·exact .inl ⟨_,rfl,q.2.1⟩
  conv=>whnf
  refine ae.sb (λz2=>?_) (λz2=>?_)
  focus
   have q:=yes (by rw[F];show(decide _||decide _)=true;rw[decide_eq_true (bj.1 z2)];simp)
   conv=>whnf
   refine⟨?_,?_,?_,?_,?_,?_,trivial⟩
   focus
    conv=>whnf
    refine bF.grow 1 16 _ _ _ _ _ _ tyT (.old rfl) rfl rfl (.rw rfl C) p ?_
    conv=>whnf
    refine bF.grow 1 16 _ _ _ _ _ _ tyT (.old rfl) rfl rfl (.rw rfl D) u ?_
    conv=>whnf
    refine⟨⟨I++ [i],n⟩,v,?_⟩;refine cH (c:=c) (I:=I++ [i]) (V:=((soV c.A a (I++ [i])).map Prod.fst)) (W:=((soV c.A a (I++ [i])).map λe=>e.2.src)) 13 15 ?_ ?_ ?_ ?_ ?_ ?_ ?_ ?_ ?_ ?_ ?_ ?_ ?_
    ·exact by decide
    ·exact Z3 3
    ·exact rfl
    ·exact ah.de (k:=3) rfl rfl (by decide) (λb w=>by rw[if_neg (by omega),if_neg (by omega)])
    ·exact .rw (by decide) rfl q.1.2
    ·exact .rw (by decide) rfl q.2.2
    ·exact rfl
    ·exact rfl
    ·exact rfl
    ·exact rfl
    ·exact congrArg (λs=>some (AO.iter 1 c.cl s)) y
    ·exact .inl ⟨_,rfl,q.1.1⟩
    ·exact .inl ⟨_,rfl,q.2.1⟩
   focus
    conv=>whnf
    refine bF.grow 1 16 _ _ _ _ _ _ tyT (.old rfl) rfl rfl (.rw rfl C) p ?_
    conv=>whnf
    refine bF.grow 1 16 _ _ _ _ _ _ tyT (.old rfl) rfl rfl (.rw rfl D) u ?_
    conv=>whnf
    refine⟨⟨I++ [i],n⟩,v,?_⟩;refine cH (c:=c) (I:=I++ [i]) (V:=((soV c.A a (I++ [i])).map Prod.fst)) (W:=((soV c.A a (I++ [i])).map λe=>e.2.src)) 13 15 ?_ ?_ ?_ ?_ ?_ ?_ ?_ ?_ ?_ ?_ ?_ ?_ ?_
    ·exact by decide
    ·exact Z3 3
    ·exact rfl
    ·exact ah.de (k:=3) rfl rfl (by decide) (λb w=>by rw[if_neg (by omega),if_neg (by omega)])
    ·exact .rw (by decide) rfl q.1.2
    ·exact .rw (by decide) rfl q.2.2
    ·exact rfl
    ·exact rfl
    ·exact rfl
    ·exact rfl
    ·exact congrArg (λs=>some (AO.iter 1 c.cl s)) y
    ·exact .inl ⟨_,rfl,q.1.1⟩
    ·exact .inl ⟨_,rfl,q.2.1⟩
   focus
    conv=>whnf
    refine bF.grow 1 16 _ _ _ _ _ _ tyT (.old rfl) rfl rfl (.rw rfl C) p ?_
    conv=>whnf
    refine bF.grow 1 16 _ _ _ _ _ _ tyT (.old rfl) rfl rfl (.rw rfl D) u ?_
    conv=>whnf
    refine⟨⟨I++ [i],n⟩,v,?_⟩;refine cH (c:=c) (I:=I++ [i]) (V:=((soV c.A a (I++ [i])).map Prod.fst)) (W:=((soV c.A a (I++ [i])).map λe=>e.2.src)) 14 15 ?_ ?_ ?_ ?_ ?_ ?_ ?_ ?_ ?_ ?_ ?_ ?_ ?_
    ·exact by decide
    ·exact Z3 3
    ·exact rfl
    ·exact ah.de (k:=3) rfl rfl (by decide) (λb w=>by rw[if_neg (by omega),if_neg (by omega)])
    ·exact .rw (by decide) rfl q.1.2
    ·exact .rw (by decide) rfl q.2.2
    ·exact rfl
    ·exact rfl
    ·exact rfl
    ·exact rfl
    ·exact congrArg (λs=>some (AO.iter 1 c.cl s)) y
    ·exact .inl ⟨_,rfl,q.1.1⟩
    ·exact .inl ⟨_,rfl,q.2.1⟩
   focus
    conv=>whnf
    refine bF.grow 1 16 _ _ _ _ _ _ tyT (.old rfl) rfl rfl (.rw rfl C) p ?_
    conv=>whnf
    refine bF.grow 1 16 _ _ _ _ _ _ tyT (.old rfl) rfl rfl (.rw rfl D) u ?_
    conv=>whnf
    refine⟨⟨I++ [i],n⟩,v,?_⟩;refine cH (c:=c) (I:=I++ [i]) (V:=((soV c.A a (I++ [i])).map Prod.fst)) (W:=((soV c.A a (I++ [i])).map λe=>e.2.src)) 13 15 ?_ ?_ ?_ ?_ ?_ ?_ ?_ ?_ ?_ ?_ ?_ ?_ ?_
    ·exact by decide
    ·exact Z3 3
    ·exact rfl
    ·exact ah.de (k:=3) rfl rfl (by decide) (λb w=>by rw[if_neg (by omega),if_neg (by omega)])
    ·exact .rw (by decide) rfl q.1.2
    ·exact .rw (by decide) rfl q.2.2
    ·exact rfl
    ·exact rfl
    ·exact rfl
    ·exact rfl
    ·exact congrArg (λs=>some (AO.iter 1 c.cl s)) y
    ·exact .inl ⟨_,rfl,q.1.1⟩
    ·exact .inl ⟨_,rfl,q.2.1⟩
   focus
    conv=>whnf
    refine bF.grow 1 16 _ _ _ _ _ _ tyT (.old rfl) rfl rfl (.rw rfl C) p ?_
    conv=>whnf
    refine bF.grow 1 16 _ _ _ _ _ _ tyT (.old rfl) rfl rfl (.rw rfl D) u ?_
    conv=>whnf
    refine⟨⟨I++ [i],n⟩,v,?_⟩;refine cH (c:=c) (I:=I++ [i]) (V:=((soV c.A a (I++ [i])).map Prod.fst)) (W:=((soV c.A a (I++ [i])).map λe=>e.2.src)) 14 15 ?_ ?_ ?_ ?_ ?_ ?_ ?_ ?_ ?_ ?_ ?_ ?_ ?_
    ·exact by decide
    ·exact Z3 3
    ·exact rfl
    ·exact ah.de (k:=3) rfl rfl (by decide) (λb w=>by rw[if_neg (by omega),if_neg (by omega)])
    ·exact .rw (by decide) rfl q.1.2
    ·exact .rw (by decide) rfl q.2.2
    ·exact rfl
    ·exact rfl
    ·exact rfl
    ·exact rfl
    ·exact congrArg (λs=>some (AO.iter 1 c.cl s)) y
    ·exact .inl ⟨_,rfl,q.1.1⟩
    ·exact .inl ⟨_,rfl,q.2.1⟩
   focus
    conv=>whnf
    refine bF.grow 1 16 _ _ _ _ _ _ tyT (.old rfl) rfl rfl (.rw rfl C) p ?_
    conv=>whnf
    refine bF.grow 1 16 _ _ _ _ _ _ tyT (.old rfl) rfl rfl (.rw rfl D) u ?_
    conv=>whnf
    refine⟨⟨I++ [i],n⟩,v,?_⟩;refine cH (c:=c) (I:=I++ [i]) (V:=((soV c.A a (I++ [i])).map Prod.fst)) (W:=((soV c.A a (I++ [i])).map λe=>e.2.src)) 14 15 ?_ ?_ ?_ ?_ ?_ ?_ ?_ ?_ ?_ ?_ ?_ ?_ ?_
    ·exact by decide
    ·exact Z3 3
    ·exact rfl
    ·exact ah.de (k:=3) rfl rfl (by decide) (λb w=>by rw[if_neg (by omega),if_neg (by omega)])
    ·exact .rw (by decide) rfl q.1.2
    ·exact .rw (by decide) rfl q.2.2
    ·exact rfl
    ·exact rfl
    ·exact rfl
    ·exact rfl
    ·exact congrArg (λs=>some (AO.iter 1 c.cl s)) y
    ·exact .inl ⟨_,rfl,q.1.1⟩
    ·exact .inl ⟨_,rfl,q.2.1⟩
  have q:=no (by rw[F];show(decide _||decide _)=false;rw[decide_eq_false (λe=>by rw[bj.2 e]at z;cases z),decide_eq_false (λe=>by rw[bj.2 e]at z2;cases z2)];rfl)
  conv=>whnf
  refine⟨⟨I++ [i],n⟩,v,?_⟩;refine cH (c:=c) (I:=I++ [i]) (V:=((soV c.A a (I++ [i])).map Prod.fst)) (W:=((soV c.A a (I++ [i])).map λe=>e.2.src)) 8 9 ?_ ?_ ?_ ?_ ?_ ?_ ?_ ?_ ?_ ?_ ?_ ?_ ?_
  ·exact by decide
  ·exact Z3 3
  ·exact rfl
  ·exact ah.de (k:=3) rfl rfl (by decide) (λb w=>by rw[if_neg (by omega),if_neg (by omega)])
  ·exact .rw (by decide) rfl (by rw[q])
  ·exact .rw (by decide) rfl (by rw[q])
  ·exact rfl
  ·exact rfl
  ·exact rfl
  ·exact rfl
  ·exact congrArg (λs=>some (AO.iter 1 c.cl s)) y
  ·exact .inl ⟨_,rfl,by rw[q];exact dd _⟩
  ·exact .inl ⟨_,rfl,by rw[q];exact dd _⟩
 have hd:∀e∈c.A,e.2.dst=e.1:=λe E=>B.dst e (by rw[<-B.A];exact E)
 obtain⟨p1,p2⟩:=X.uu B.o.nd B.o.len ho;have pp:(soV c.A a I).Perm (c.A.filter λe=>a e.2):=p1.filter _;have eN:=im (pp.map Prod.fst);have eS:=im (pp.map λe=>e.2.src);have lV:((soV c.A a I).map Prod.fst).length<=1000000:=by rw[Y0];omega
 have lW:((soV c.A a I).map λe=>e.2.src).length<=1000000:=by rw[Y0];omega
 obtain⟨N,Z⟩:∃N,N=aH ((soV c.A a I).map Prod.fst):=⟨_,rfl⟩;obtain⟨S,hS⟩:∃S,S=aH ((soV c.A a I).map λe=>e.2.src):=⟨_,rfl⟩;have lN:N.length<=1000:=by rw[Z];have:=dh ((soV c.A a I).map Prod.fst);rw[Y0]at this;omega
 have lS:S.length<=1000:=by rw[hS];have:=dh ((soV c.A a I).map λe=>e.2.src);rw[Y0]at this;omega
 have gN:∀d∈N,∃r,aL c.A d=some r:=λd hd=>by
  rw[Z,(bf _).2,q0m]at hd;obtain⟨e,E,rfl⟩:=hd;exact⟨e.2,eI B.o.key (A5 (q0v.1 E).1)⟩
 have fin:S.flatMap (pkS N c.A)=pkF c.A a:=by rw[Z,hS,eN,eS];rfl
 have vN:AV.fr N.length 1 (strs N)= .fr (aH ((soV c.A a I).map Prod.fst)).length 1 (strs (aH ((soV c.A a I).map Prod.fst))):=by rw[Z]
 have vS:AV.fr S.length 1 (strs S)= .fr (aH ((soV c.A a I).map λe=>e.2.src)).length 1 (strs (aH ((soV c.A a I).map λe=>e.2.src))):=by rw[hS]
 clear eN eS pp
 conv=>whnf
 refine⟨_,.fr N.length 1 (strs N),_,.cons (.row (l:=strs ((soV c.A a I).map Prod.fst)) (z:=true) rfl (b6 _) (by rw[bq,q0i]) rfl) .nil,⟨_,rfl,lV,vN⟩,?_⟩
 conv=>whnf
 refine⟨_,.fr S.length 1 (strs S),_,.cons (.row (l:=strs ((soV c.A a I).map λe=>e.2.src)) (z:=true) rfl (b6 _) (by rw[bq,q0i]) rfl) .nil,⟨_,rfl,lW,vS⟩,?_⟩;have lP:∀(M:List Tx) (s:Tx),(pkS M c.A s).length<=M.length:=λM s=>by unfold pkS;rw[Y0];exact nE _
 have lL:∀i,((S.take i).flatMap (pkS N c.A)).length<=1000000:=λi=>by
  have h1:=uU (L:=S.take i) (f:=pkS N c.A) (b:=1000) λs _=>X9 (lP N s) lN
  have h2:(S.take i).length<=1000:=X9 (by rw[Y7];exact Nat.min_le_right _ _) lS;omega
 conv=>whnf
 refine aR.mk {i:Nat//i<=S.length} 9 (λi=>FG k c N S ((S.take i.val).flatMap (pkS N c.A)) i.val) (λi=>S.length-i.val) ⟨0,X5 _⟩ ?_ ?_
 focus
  exact xu (c:=c) (N:=N) (S:=S) (L:=(S.take 0).flatMap (pkS N c.A)) (i:=0) 10 (by decide) (Z3 3) rfl rfl (.iP rfl) rfl rfl rfl rfl rfl rfl (.inr ⟨rfl,by decide⟩)
 intro⟨i,hi⟩;have hi:i<=S.length:=hi;have hw:IntKind.i64.wrap ((i:Int)+1)=((i+1:Nat):Int):=by rw[al (by omega) (by omega)];omega
 have lLi:=lL i
 conv=>whnf
 refine ae.dec (λh=>?_) (λh=>?_)
 focus
  have G:i<S.length:=q0o.1 h;have e3:(S.take (i+1)).flatMap (pkS N c.A)=(S.take i).flatMap (pkS N c.A)++pkS N c.A S[i]:=by rw[X8 G,List.flatMap_append];simp
  conv=>whnf
  refine Idx.mk i rfl G ?_
  conv=>whnf
  refine aw (gm G (q0i _)) ?_
  conv=>whnf
  refine aR.mk {j:Nat//j<=N.length} 9 (λj=>FH k c N S ((S.take i).flatMap (pkS N c.A)++pkS (N.take j.val) c.A S[i]) S[i] i j.val) (λj=>N.length-j.val) ⟨0,X5 _⟩ ?_ ?_
  focus
   exact qN (c:=c) (N:=N) (S:=S) (L:=(S.take i).flatMap (pkS N c.A)++pkS (N.take 0) c.A S[i]) (s:=S[i]) (i:=i) (j:=0) 8 (by decide) (Z3 3) rfl rfl (.rw (by decide) rfl (by rw[Z6];rfl)) rfl rfl rfl rfl rfl rfl rfl rfl rfl rfl (.inl ⟨_,rfl,by rw[dB];exact congrArg ruL (q0w _).symm⟩)
  intro⟨j,hj⟩;have hj:j<=N.length:=hj;have Q:IntKind.i64.wrap ((j:Int)+1)=((j+1:Nat):Int):=by rw[al (by omega) (by omega)];omega
  obtain⟨L,J⟩:∃L,L=(S.take i).flatMap (pkS N c.A)++pkS (N.take j) c.A S[i]:=⟨_,rfl⟩
  have bL:L.length<=1001000:=by
   have h1:=lP (N.take j) S[i];rw[Y7]at h1;rw[J,Z6];omega
  rw[<-J]
  conv=>whnf
  refine ae.dec (λh=>?_) (λh=>?_)
  focus
   have K:j<N.length:=q0o.1 h;obtain⟨r,hr⟩:=gN N[j] (q0b K);have er:rul c.A N[j]=r:=by unfold rul;rw[hr];rfl
   have sn:=xq (R:=c.A) (s:=S[i]) K;rw[er]at sn;have H:N.length-(j+1)<N.length-j:=by omega
   have y1:dw r.src S[i]=true->L++ [r]=(S.take i).flatMap (pkS N c.A)++pkS (N.take (j+1)) c.A S[i]:=λq=>by rw[sn,if_pos (bj.1 q),J,q0h]
   have y0:dw r.src S[i]=false->L=(S.take i).flatMap (pkS N c.A)++pkS (N.take (j+1)) c.A S[i]:=λq=>by
    have:r.src≠S[i]:=λe=>by rw[bj.2 e]at q;cases q
    rw[sn,if_neg this,q0w,J]
   have hsL:bk (ruL L) 0 (L.length*5)=some (ruL L):=bw (jr L);have hbL:(L.length+1)*56<=140737488355328:=by omega
   clear sn
   conv=>whnf
   refine Idx.mk j rfl K ?_
   conv=>whnf
   refine aw (gm K (q0i _)) ?_
   conv=>whnf
   refine Ask.mk _ (aZ (m:=c) (g:=gR) (k:=N[j]) bQ mkR rfl rfl rfl lk hr) ?_
   conv=>whnf
   refine ae.sb (λz=>?_) (λz=>?_)
   focus
    have q:=y1 z
    conv=>whnf
    refine Ask.mk _ (aZ (m:=c) (g:=gR) (k:=N[j]) bQ mkR rfl rfl rfl lk hr) ?_
    conv=>whnf
    refine bF.grow 5 56 _ _ _ _ _ _ Ud (.old rfl) rfl rfl (.rw rfl hsL) hbL ?_
    conv=>whnf
    exact⟨⟨j+1,K⟩,H,qN (c:=c) (N:=N) (S:=S) (L:=(S.take i).flatMap (pkS N c.A)++pkS (N.take (j+1)) c.A S[i]) (s:=S[i]) (i:=i) (j:=j+1) 10 (by decide) (Z3 3) rfl rfl (.rw (by decide) rfl (by rw[<-q,Z6];rfl)) rfl rfl rfl rfl rfl rfl (congrArg (AV.si .i64) Q) rfl rfl rfl (.inl ⟨_,rfl,by rw[<-q];exact xp L r⟩)⟩
   have q:=y0 z
   conv=>whnf
   exact⟨⟨j+1,K⟩,H,qN (c:=c) (N:=N) (S:=S) (L:=(S.take i).flatMap (pkS N c.A)++pkS (N.take (j+1)) c.A S[i]) (s:=S[i]) (i:=i) (j:=j+1) 8 (by decide) (Z3 3) rfl rfl (.rw (by decide) rfl (by rw[<-q])) rfl rfl rfl rfl rfl rfl (congrArg (AV.si .i64) Q) rfl rfl rfl (.inl ⟨_,rfl,by rw[<-q];exact dB L⟩)⟩
  have ej:j=N.length:=by have h:¬(j:Int)<(N.length:Int):=h;omega
  have eL:L=(S.take (i+1)).flatMap (pkS N c.A):=by rw[J,ej,q0e,e3]
  conv=>whnf
  exact⟨⟨i+1,G⟩,by show S.length-(i+1)<S.length-i;omega,xu (c:=c) (N:=N) (S:=S) (L:=(S.take (i+1)).flatMap (pkS N c.A)) (i:=i+1) 8 (by decide) (Z3 3) rfl rfl (.rw (by decide) rfl (by rw[eL])) rfl rfl (congrArg (AV.si .i64) hw) rfl rfl rfl (.inl ⟨_,rfl,by rw[eL];exact dB _⟩)⟩
 have ei:i=S.length:=by have h:¬(i:Int)<(S.length:Int):=h;omega
 have eF:(S.take i).flatMap (pkS N c.A)=pkF c.A a:=by rw[ei,q0e,fin]
 have hLl:=lL i;obtain⟨L,J⟩:∃L,L=(S.take i).flatMap (pkS N c.A):=⟨_,rfl⟩;rw[<-J]at hLl eF;rw[<-J]
 conv=>whnf
 refine aR.mk {t:Nat×GrC//t.1<=L.length/\t.2.Ok/\t.2.A=ll c.A (L.take t.1)} 9 (λt=>grG k t.val.2 L t.val.1) (λt=>L.length-t.val.1) ⟨(0,c),X5 _,B.o,rfl⟩ ?_ ?_
 focus
  exact HN (k:=k) (c:=c) (L:=L) (i:=0) 8 (by decide) (by decide) rfl (.rw (by decide) rfl rfl) (.rw (by decide) rfl rfl) rfl rfl rfl rfl rfl (.inl ⟨_,rfl,dB L⟩)
 intro⟨(m,O),v,T,U⟩;have v:m<=L.length:=v;have hwm:IntKind.i64.wrap ((m:Int)+1)=((m+1:Nat):Int):=by rw[al (by omega) (by omega)];omega
 conv=>whnf
 refine ae.dec (λh=>?_) (λh=>?_)
 focus
  have G:m<L.length:=q0o.1 h;have H:L.length-(m+1)<L.length-m:=by omega
  have e5:(O.del L[m].dst).A=ll c.A (L.take (m+1)):=by rw[xn,U,FE G]
  have sub:=rY G (q0s (m*5));have go2:=T.del L[m].dst
  conv=>whnf
  refine Idx.mk m rfl G ?_
  conv=>whnf
  refine aw sub ?_
  conv=>whnf
  refine Ask.mk _ (tk (m:=O) (g:=gR) (k:=L[m].dst) bQ mkR rfl rfl rfl) ?_
  conv=>whnf
  refine⟨⟨(m+1,O.del L[m].dst),G,go2,e5⟩,H,HN (k:=k) (c:=O.del L[m].dst) (L:=L) (i:=m+1) 8 ?_ ?_ ?_ ?_ ?_ ?_ ?_ ?_ ?_ ?_ ?_⟩
  ·exact by decide
  ·exact by decide
  ·exact rfl
  ·exact .rw (by decide) rfl rfl
  ·exact .rw (by decide) rfl rfl
  ·exact rfl
  ·exact congrArg (AV.si .i64) hwm
  ·exact rfl
  ·exact rfl
  ·exact rfl
  ·exact .inl ⟨_,rfl,dB L⟩
 have em:m=L.length:=by have h:¬(m:Int)<(L.length:Int):=h;omega
 have e6:O.A=ll c.A (pkF c.A a):=by rw[U,em,q0e,eF]
 have e7:(AV.si .i64 (L.length:Int))= .si .i64 ((pkF c.A a).length:Int):=by rw[eF]
 have e8:∀e∈ll c.A (pkF c.A a),e∈c.A:=λe=>tp
 conv=>whnf
 exact⟨_,O,.told (congrArg mkT e7),⟨e6,T,λe E=>B.dst e (by rw[<-B.A];exact e8 e E),λe E=>B.lab e (by rw[<-B.A];exact e8 e E)⟩,mI rfl rfl⟩
def NP (x:Gr):List Rl:=pkF x λ_=>true
def ofG (x:Gr) (k:Tx):List Rl:=pkF x λr=>decide (r.src=k)
def p5(k:Tx)(r:Rl):Bool:=decide (r.src=k)||decide (r.dst=k)
def uf (x:Gr) (k:Tx):Gr:=ll x (pkF x (p5 k))
def Wi(x:Gr)(cs:List AV)(v:AV):Prop:=cs=[]/\x.length<=1000/\v= .fr (NP x).length 5 (ruL (NP x))
def NQ(x:Gr)(cs:List AV)(v:AV):Prop:=∃k,cs=[.ss k]/\x.length<=1000/\v= .fr (ofG x k).length 5 (ruL (ofG x k))
def Wj(x:Gr)(cs:List AV)(a:Gr)(v:AV):Prop:=∃k,cs=[.ss k]/\x.length<=1000/\a=uf x k/\v= .si .i64 ((pkF x (p5 k)).length:Int)
theorem Qv:ai 53 (dO 2 GrB Wi):=(gj A6 5 (by kernel_rfl) GrB rfl (by decide) λx cs h v ⟨b,d,e,f⟩=>by
 subst b d f;exact⟨rfl,rfl,λc a=>by have g:=a.A;subst g;exact J5 _ c a e⟩).ol
theorem NR:ai 133 (dO 2 GrB NQ):=(gj A6 5 (by kernel_rfl) GrB rfl (by decide) λx cs h v ⟨b,k,d,e,f⟩=>by
 subst b d f;exact⟨rfl,rfl,λc a=>by have g:=a.A;subst g;exact DJ _ k c a e⟩).ol
theorem Ul:ai 133 (iC 2 GrB λx cs a v=>a=x/\NQ x cs v):=xm (ay A6 5 _) (by kernel_rfl) GrB rfl (by decide) λx cs a v ⟨d,k,e,f,g⟩=>by
 subst d e g;exact⟨rfl,rfl,λc b=>by have h:=b.A;subst h;exact DJ _ k c b f⟩
theorem NS:ai 69 (cM 2 GrB Wj):=gj Uk 5 (by kernel_rfl) GrB rfl (by decide) λx cs h v ⟨k,b,d,e,f⟩=>by
 subst b e f;exact⟨rfl,rfl,λc a=>by have g:=a.A;subst g;exact FI _ k c a d⟩
def ug:Option Rl->AV
 |none=> .tup [.agg [.str [],.str [],.int .i64 0,.int .i64 0,.int .i64 0],.sb false]
 |some r=> .tup [gR r,.sb true]
def Wk(x:Gr)(cs:List AV)(v:AV):Prop:=∃k,cs=[.ss k]/\v=ug (aL x k)
theorem NT:ai 120 (dO 2 GrB Wk):=(gj az 3 (by kernel_rfl) GrB rfl (by decide) λx cs d v ⟨e,k,f,h⟩=>by
 subst e f h;refine⟨rfl,by cases aL d k<;>rfl,λc b=>?_⟩;have a:=b.A;subst a;cases a:aL c.A k with
 |none=>
  conv=>whnf
  refine Ask.mk _ (aZ (m:=c) (g:=gR) bQ mkR rfl rfl rfl lk a) ?_
  conv=>whnf
  exact⟨_,c,.told rfl,b,mI rfl rfl⟩
 |some r=>
  conv=>whnf
  refine Ask.mk _ (aZ (m:=c) (g:=gR) bQ mkR rfl rfl rfl lk a) ?_
  conv=>whnf
  exact⟨_,c,.told rfl,b,mI rfl rfl⟩).ol
def A7 (x:Gr) (r:Rl):Gr×AV:=
 if cW r=false then(x,.si .i64 1)else if(aL x r.dst).isSome=true then(x,.si .i64 6)
 else if(aL x r.src).isSome=true∨0<(ofG x r.dst).length then(x,.si .i64 10)else(gP x r.dst r,.si .i64 0)
def R5(x:Gr)(cs:List AV)(a:Gr)(v:AV):Prop:=∃r y,cs=[gR r]/\x.length<=1000/\A7 x r=y/\a=y.1/\v=y.2/\ga v=true
def Qw:DT:=[(5,[(some 1000000,[]),(none,[0,1,2,3,4,5,6,7,8,9,10,11,12])]),(8,[(some 1000000,[]),(none,[0,1,2,3,4,5,6,7,8,9,10,11,12])])]
def KGa:FuncId->EP:=bb 90 Qw (aq 89 (cQ Ue) (aq 133 (iC 2 GrB λx cs a v=>a=x/\NQ x cs v) evP))
theorem Um:aU KGa:=au (ag (ag az Ul) Wg) (by kernel_rfl) (by kernel_rfl)
theorem J6(x:Gr)(r:Rl)(c:GrC)(n:J4 x c)(d:x.length<=1000){y:Gr×AV}(p:A7 x r=y):ax KGa 5 90 [.ptr 0 0,gR r] (mkH (bH (grO c) 0)) 2 (gi GrB y.1 y.2):=by
 have B:=n.A;have G:cW r=false->y=(x,.si .i64 1):=λq=>by rw[<-p];unfold A7;rw[if_pos q]
 have H:cW r=true->∀u,aL x r.dst=some u->y=(x,.si .i64 6):=λq u f=>by rw[<-p];unfold A7;rw[q,f];rfl
 have I:cW r=true->aL x r.dst=none->∀u,aL x r.src=some u->y=(x,.si .i64 10):=λq f u s=>by rw[<-p];unfold A7;rw[q,f,s];simp
 have J:cW r=true->aL x r.dst=none->aL x r.src=none->((ofG x r.dst).length:Int)>0->y=(x,.si .i64 10):=λq f s F=>by rw[<-p];unfold A7;rw[q,f,s,if_neg (by simp),if_neg (by simp),if_pos (.inr (by omega))]
 have K:cW r=true->aL x r.dst=none->aL x r.src=none->¬((ofG x r.dst).length:Int)>0->y=(gP x r.dst r,.si .i64 0):=λq f s F=>by rw[<-p];unfold A7;rw[q,f,s,if_neg (by simp),if_neg (by simp),if_neg (λh=>h.elim (by simp) (λh=>F (by omega)))]
 obtain⟨L,M⟩:=y
 conv=>whnf
 refine⟨_,_,_,.cons .same .nil,⟨r,rfl,rfl⟩,?_⟩
 conv=>whnf
 refine ae.nsb (λi=>?_) (λi=>?_)
 focus
  have e:=G i;injection e with e1 e2;subst e1 e2
  conv=>whnf
  exact⟨_,c,.told rfl,n,mI rfl rfl⟩
 cases t:aL c.A r.dst with
 |some u=>
  have e:=H i u (by rw[<-B];exact t);injection e with e1 e2;subst e1 e2
  conv=>whnf
  refine⟨?_,trivial⟩
  conv=>whnf
  refine Ask.mk _ (aZ (m:=c) (g:=gR) (k:=r.dst) bQ mkR rfl rfl rfl lk t) ?_
  conv=>whnf
  exact⟨_,c,.told rfl,n,mI rfl rfl⟩
 |none=>
  have j:aL x r.dst=none:=by rw[<-B];exact t
  cases C:aL c.A r.src with
  |some u=>
   have e:=I i j u (by rw[<-B];exact C);injection e with e1 e2;subst e1 e2
   conv=>whnf
   refine⟨?_,trivial⟩
   conv=>whnf
   refine Ask.mk _ (aZ (m:=c) (g:=gR) (k:=r.dst) bQ mkR rfl rfl rfl lk t) ?_
   conv=>whnf
   refine⟨?_,trivial⟩
   conv=>whnf
   refine Ask.mk _ (aZ (m:=c) (g:=gR) (k:=r.src) bQ mkR rfl rfl rfl lk C) ?_
   conv=>whnf
   exact⟨_,c,.told rfl,n,mI rfl rfl⟩
  |none=>
   have w:aL x r.src=none:=by rw[<-B];exact C
   conv=>whnf
   refine⟨?_,trivial⟩
   conv=>whnf
   refine Ask.mk _ (aZ (m:=c) (g:=gR) (k:=r.dst) bQ mkR rfl rfl rfl lk t) ?_
   conv=>whnf
   refine⟨?_,trivial⟩
   conv=>whnf
   refine Ask.mk _ (aZ (m:=c) (g:=gR) (k:=r.src) bQ mkR rfl rfl rfl lk C) ?_
   conv=>whnf
   refine⟨x,[.ss r.dst],_,_,_,c,rfl,by decide,.cons .same .nil,n,XH rfl rfl,⟨rfl,r.dst,rfl,d,rfl⟩,λz a=>?_⟩;have l:=a.A
   conv=>whnf
   refine ae.dec (λz2=>?_) (λz2=>?_)
   focus
    have e:=J i j w z2;injection e with e1 e2;subst e1 e2
    conv=>whnf
    exact⟨_,z,.told rfl,a,mI rfl rfl⟩
   have e:=K i j w z2;injection e with e1 e2;subst e1 e2;have D:(z.put r.dst r).A=gP x r.dst r:=by rw[HG,l]
   have E:J4 (gP x r.dst r) (z.put r.dst r):=⟨D,a.o.put _ _,λe b=>by
    rw[<-D]at b;rcases rU b with rfl|b
    ·rfl
    ·exact a.dst e (by rw[<-l];exact b),λe b=>by
    rw[<-D]at b;rcases rU b with rfl|b
    ·exact i
    ·exact a.lab e (by rw[<-l];exact b)⟩
   conv=>whnf
   refine Ask.mk _ (xj (m:=z) (g:=gR) (v:=r) (k:=r.dst) bQ mkR rfl rfl rfl rfl) ?_
   conv=>whnf
   exact⟨_,z.put r.dst r,.told rfl,E,mI rfl rfl⟩
theorem Qx:ai 90 (cM 2 GrB R5):=gj Um 5 (by kernel_rfl) GrB rfl (by decide) λx cs i v ⟨r,y,a,b,d,e,f,g⟩=>by
 subst a e f;exact⟨rfl,g,λc h=>J6 x r c h b d⟩
def p6(x:Gr)(s d:Tx):Gr×AV:=match aL x d with
 |none=>(x,.tup [.agg [.str [],.str [],.int .i64 0,.int .i64 0,.int .i64 0],.si .i64 5])
 |some r=>if r.src=s then(dt x d,.tup [gR r,.si .i64 0])else(x,.tup [.agg [.str [],.str [],.int .i64 0,.int .i64 0,.int .i64 0],.si .i64 5])
def Wl(x:Gr)(cs:List AV)(a:Gr)(v:AV):Prop:=∃s d y,cs=[.ss s,.ss d]/\p6 x s d=y/\a=y.1/\v=y.2
theorem J7(x:Gr)(s d:Tx):ga (p6 x s d).2=true:=by unfold p6;repeat' (first|rfl|split)
theorem NU:ai 109 (cM 2 GrB Wl):=gj az 3 (by kernel_rfl) GrB rfl (by decide) λx cs p v ⟨s,d,y,h,a,j,l⟩=>by
 subst h j l;refine⟨rfl,by rw[<-a];exact J7 _ _ _,λc b=>?_⟩;have f:=b.A;unfold p6 at a;cases h:aL c.A d with
 |none=>
  rw[<-f,h]at a;subst a
  conv=>whnf
  refine Ask.mk _ (aZ (m:=c) (g:=gR) (k:=d) bQ mkR rfl rfl rfl lk h) ?_
  conv=>whnf
  exact⟨_,c,.told rfl,⟨rfl,b.o,by rw[f];exact b.dst,by rw[f];exact b.lab⟩,mI rfl rfl⟩
 |some r=>
  rw[<-f,h]at a;have a:(if r.src=s then(dt c.A d,AV.tup [gR r,.si .i64 0])else(c.A,AV.tup [.agg [.str [],.str [],.int .i64 0,.int .i64 0,.int .i64 0],.si .i64 5]))=y:=a
  conv=>whnf
  refine Ask.mk _ (aZ (m:=c) (g:=gR) (k:=d) bQ mkR rfl rfl rfl lk h) ?_
  conv=>whnf
  refine ae.nsb (λz=>?_) (λz=>?_)
  focus
   rw[if_neg (λe=>by rw[bj.2 e]at z;cases z)]at a;subst a
   conv=>whnf
   exact⟨_,c,.told rfl,⟨rfl,b.o,by rw[f];exact b.dst,by rw[f];exact b.lab⟩,mI rfl rfl⟩
  rw[if_pos (bj.1 z)]at a;subst a;have n:(c.del d).A=dt c.A d:=xn _ _
  conv=>whnf
  refine Ask.mk _ (tk (m:=c) (g:=gR) (k:=d) bQ mkR rfl rfl rfl) ?_
  conv=>whnf
  exact⟨_,c.del d,.told rfl,⟨n,b.o.del d,λe i=>b.dst e (by rw[<-f];exact rZ i),λe i=>b.lab e (by rw[<-f];exact rZ i)⟩,mI rfl rfl⟩
theorem Qy:ai 52 (uc 2 GrB λcs y=>cs=[]/\y=[]):=Nx (ay az 3 _) (by kernel_rfl) GrB rfl (by decide) λcs y ⟨f,g⟩=>by
 subst f g;refine⟨rfl,?_⟩
 conv=>whnf
 refine⟨(MpC.no:GrC),⟨rfl,MpC.DD,λ_ h=>(by cases h),λ_ h=>(by cases h)⟩,Cov.ofR (λb=>1-b) (X5 _) (λb j=>absurd j (q0f b)) (λx a=>?_) (λx a=>?_) (λx a y d e=>?_)⟩
 ·simp only[Z4,Z5,or_false]at a;subst a;exact .ptr (by decide) rfl
 ·simp only[bH,grO,GrB,Z4,Z5,or_false]at a;rcases a with rfl|rfl
  ·refine⟨by decide,.inl ⟨_,rfl,.cells (Z3 _) id λi k c=>?_⟩⟩
   match i,c with
   |0,c=>injection c with c;subst c;exact⟨_,rfl,.map (by decide) rfl⟩
   |i+1,c=>simp at c
  ·exact⟨by decide,.inl ⟨_,rfl,.ND⟩⟩
 ·simp only[bH,grO,GrB,Z4,Z5,or_false]at a d;rcases a with rfl|rfl<;>rcases d with rfl|rfl<;>simp at e⊢
theorem DK{H:AH}:∀{k m n:Nat},m<=k->iA H k n=true->iA H m n=true
 |_,0,_,_,_=>rfl
 |0,m+1,_,a,_=>by omega
 |k+1,m+1,n,a,h=>by
  unfold iA at h⊢;split at h
  ·exact DK (by omega) h
  ·cases h
structure SE where
 p:Nat×Nat
 S:Sr
 L:Smp
 z:Int
def gE(e:SE):AV:= .agg [aK e.p,.si .i64 e.z]
def XI(e:SE):HP:=cL e.p e.S e.L
def aM(A:List (Tx×SE)):List HP:=A.map λe=>XI e.2
structure SpC where
 m:MpC Tx SE
 x:Ix
 px:Nat×Nat
 g:Gr
 pg:Nat×Nat
def spO(c:SpC):List AO:=[.cells [.map 1,aK c.px,aK c.pg] true,c.m.O kT gE,.sep (IxB.Q c.x c.px),.sep (GrB.Q c.g c.pg),.sep (aF (aM c.m.A))]
structure fy where
 S:Sr
 L:Smp
 z:Int
 lab:List Lab
structure SpV where
 K:Tx->Option fy
 R:Tx->Option Rl
 n:Nat
def J8(e:SE):Sr×Smp×Int:=(e.S,e.L,e.z)
def FL(e:fy):Sr×Smp×Int:=(e.S,e.L,e.z)
structure bE(X:SpV)(c:SpC):Prop where
 o:c.m.Ok
 xk:(c.x.A.map Prod.fst).Nodup
 gk:(c.g.map Prod.fst).Nodup
 n9:X.n<=1000
 ml:c.m.A.length<=X.n
 xl:c.x.A.length<=X.n
 xw:c.x.w<=8*X.n
 gl:c.g.length<=X.n
 K:∀k,(aL c.m.A k).map J8=(X.K k).map FL
 I:∀k,aL c.x.A k=(X.K k).map fy.lab
 R:∀k,aL c.g k=X.R k
 dst:∀e∈c.g,e.2.dst=e.1
 ser:∀k e,X.K k=some e->iz e.S e.L
 key:∀k e,X.K k=some e->iE k=true
 rul:∀k r,X.R k=some r->cW r=true
theorem uh{j:Nat}(e:SE):ltV j (gE e)=true:=rfl
def SpB:Obj SpV SpC where
 ok:=bE
 O:=spO
 k:=5
 len _:=rfl
 own c o h:=by
  simp only[spO,Z4,Z5,or_false]at h;rcases h with rfl|rfl|rfl|rfl|rfl
  ·exact⟨rfl,rfl⟩
  ·exact⟨rfl,bl dQ uh⟩
  ·exact⟨rfl,rfl⟩
  ·exact⟨rfl,rfl⟩
  ·exact⟨rfl,rfl⟩
 pos c:=⟨_,_,_,rfl⟩
theorem bK{H:AH}{c:SpC}(a:H.get 0=some (.cells [.map 1,aK c.px,aK c.pg] true))(b:H.get 1=some (c.m.O kT gE))(d:H.get 2=some (.sep (IxB.Q c.x c.px)))(e:H.get 3=some (.sep (GrB.Q c.g c.pg)))(f:H.get 4=some (.sep (aF (aM c.m.A)))):x0 H 5 (spO c) 0:=
 ⟨⟨_,a,.refl rfl⟩,⟨_,b,.refl (bl dQ uh)⟩,⟨_,d,.refl rfl⟩,⟨_,e,.refl rfl⟩,⟨_,f,.refl rfl⟩,trivial⟩
theorem tq{H:AH}{c:SpC}(a:H.get 0=some (.cells [.map 1,aK c.px,aK c.pg] true))(b:H.get 1=some (c.m.O kT gE))(d:H.get 2=some (.sep (IxB.Q c.x c.px)))(e:H.get 3=some (.sep (GrB.Q c.g c.pg)))(f:H.get 4=some (.sep (aF (aM c.m.A)))):∀i o,(spO c)[i]?=some o->H.get i=some o
 |0,o,h=>by injection h with h;subst h;exact a
 |1,o,h=>by injection h with h;subst h;exact b
 |2,o,h=>by injection h with h;subst h;exact d
 |3,o,h=>by injection h with h;subst h;exact e
 |4,o,h=>by injection h with h;subst h;exact f
 |i+5,o,h=>by simp[spO]at h
theorem nX:dK Tryz.prog 92=some (9,.string,105):=by kernel_rfl
theorem pM:cS Tryz.prog 105=some (.agg #[.pointer none,.int .i64 0]):=by kernel_rfl
section
variable {X:SpV} {c:SpC}
theorem bE.has(h:bE X c)(k:Tx):(aL c.x.A k).isSome=(X.K k).isSome:=by rw[h.I];simp
def FM(m:MpC Tx SE)(k:Tx)(a b:List (Tx×SE)):Prop:=∀E,m.put k E=⟨a++(k,E)::b,m.bs,m.cl⟩
theorem Qz{m:MpC Tx SE}{k:Tx}{E:SE}(h:aL m.A k=some E):∃a b,m.A=a++(k,E)::b/\FM m k a b:=by
 unfold aL at h;rw[Z7]at h;obtain⟨⟨i,u⟩,d,rfl⟩:=h;have e:=(gz d).2;rw[q3c]at e;obtain⟨f,g⟩:=X6.1 e;refine⟨m.A.take i,m.A.drop (i+1),?_,λE=>?_⟩
 ·rw[<-g,<-q0d f,q1c]
 ·unfold MpC.put;rw[d];show(⟨m.A.set i (k,E),m.bs,m.cl⟩:MpC Tx SE)=_;rw[List.set_eq_take_append_cons_drop,if_pos f]
theorem bE.at1(h:bE X c){k:Tx}{e:fy}(i:X.K k=some e):∃p b d,aL c.m.A k=some ⟨p,e.S,e.L,e.z⟩/\c.m.A=b++(k,⟨p,e.S,e.L,e.z⟩)::d/\FM c.m k b d/\aM c.m.A=aM b++cL p e.S e.L::aM d:=by
 have a:=h.K k;rw[i]at a;cases f:aL c.m.A k with
 |none=>rw[f]at a;cases a
 |some u=>
  rw[f]at a;obtain⟨p,S,L,z⟩:=u;injection a with a;simp only[J8,FL,q2v]at a;obtain⟨rfl,rfl,rfl⟩:=a;obtain⟨b,d,g,j⟩:=Qz f;refine⟨p,b,d,rfl,g,j,?_⟩;rw[g];unfold aM;rw[q0k];rfl
def fJ(X:SpV)(k:Tx)(e:fy):SpV:={X with K:=λx=>if x=k then some e else X.K x}
theorem bE.xx(h:bE X c){k:Tx}{e:fy}(g:X.K k=some e){p:Nat×Nat}{d f:List (Tx×SE)}(r:aL c.m.A k=some ⟨p,e.S,e.L,e.z⟩)(i:c.m.A=d++(k,⟨p,e.S,e.L,e.z⟩)::f)(j:FM c.m k d f){S':Sr}{a:Smp}(ho:iz S' a):
 bE (fJ X k {e with S:=S',L:=a}) {c with m:=c.m.put k ⟨p,S',a,e.z⟩}/\(c.m.put k ⟨p,S',a,e.z⟩).O kT gE=c.m.O kT gE/\aM (c.m.put k ⟨p,S',a,e.z⟩).A=aM d++cL p S' a::aM f:=by
 have l:(c.m.put k ⟨p,S',a,e.z⟩).A=d++(k,⟨p,S',a,e.z⟩)::f:=congrArg MpC.A (j _);refine⟨⟨h.o.put k _,h.xk,h.gk,h.n9,?_,h.xl,h.xw,h.gl,λx=>?_,λx=>?_,h.R,h.dst,λx y b=>?_,λx y b=>?_,h.rul⟩,?_,?_⟩
 ·rw[l];have:=h.ml;rw[i]at this;simpa[fJ]using this
 ·rw[xh h.o];by_cases q:x=k
  ·subst q;simp[fJ,J8,FL]
  ·simp[fJ,q,h.K x]
 ·by_cases q:x=k
  ·subst q;simp[fJ,h.I x,g]
  ·simp[fJ,q,h.I x]
 ·by_cases q:x=k
  ·subst q;simp only[fJ,if_true,q1r]at b;subst b;exact ho
  ·simp only[fJ,if_neg q]at b;exact h.ser x y b
 ·by_cases q:x=k
  ·subst q;exact h.key x e g
  ·simp only[fJ,if_neg q]at b;exact h.key x y b
 ·have n:c.m.put k ⟨p,S',a,e.z⟩=⟨d++(k,⟨p,S',a,e.z⟩)::f,c.m.bs,c.m.cl⟩:=j _;unfold MpC.O;rw[n];show AO.mp (jq kT gE (d++_::f)) _ _=_;rw[i];unfold jq;simp only[q0k,q1j];rfl
 ·rw[l];unfold aM;rw[q0k];rfl
theorem bE.no1(h:bE X c){k:Tx}(b:X.K k=none):aL c.m.A k=none:=by
 have a:=h.K k;rw[b]at a;cases d:aL c.m.A k with
 |none=>rfl
 |some u=>rw[d]at a;cases a
end
def cX(X:SpV)(k:Tx):Int:=if(X.K k).isSome=true then(if(X.R k).isSome=true then 10 else 0)else 5
def QA(X:SpV)(cs:List AV)(a:SpV)(v:AV):Prop:=∃k,cs=[.ss k]/\a=X/\v= .si .i64 (cX X k)
def KWr:FuncId->EP:=aq 84 (dO 4 IxB J1) (aq 120 (dO 2 GrB Wk) evP)
theorem Un:aU KWr:=ag (ag az NT) rW
theorem J9(X:SpV)(k:Tx)(c:SpC)(a:bE X c):ax KWr 5 61 [.ptr 0 0,.ss k] (mkH (bH (spO c) 0)) 5 (gi SpB X (.si .i64 (cX X k))):=by
 have b:=a.has k;have f:=a.R k;cases d:X.K k with
 |none=>
  rw[d]at b;have e:cX X k=5:=by unfold cX;rw[d];rfl
  rw[e]
  conv=>whnf
  refine⟨2,c.px,c.x,[.ss k],.sb false,rfl,by decide,by decide,.cons .same .nil,rfl,rfl,⟨k,rfl,congrArg AV.sb b.symm⟩,?_⟩
  conv=>whnf
  refine ae.nsb (λz=>?_) (λz=>?_)
  focus
   conv=>whnf
   exact⟨_,c,.told rfl,a,bK rfl rfl rfl rfl rfl⟩
  cases z
 |some u=>
  rw[d]at b;cases h:X.R k with
  |none=>
   rw[h]at f;have e:cX X k=0:=by unfold cX;rw[d,h];rfl
   rw[e]
   conv=>whnf
   refine⟨2,c.px,c.x,[.ss k],.sb true,rfl,by decide,by decide,.cons .same .nil,rfl,rfl,⟨k,rfl,congrArg AV.sb b.symm⟩,?_⟩
   conv=>whnf
   refine ae.nsb (λz=>?_) (λz=>?_)
   focus
    cases z
   conv=>whnf
   refine⟨3,c.pg,c.g,[.ss k],ug none,rfl,by decide,by decide,.cons .same .nil,rfl,rfl,⟨k,rfl,by rw[f]⟩,?_⟩
   conv=>whnf
   refine ae.sb (λz=>?_) (λz=>?_)
   focus
    cases z
   conv=>whnf
   exact⟨_,c,.told rfl,a,bK rfl rfl rfl rfl rfl⟩
  |some r=>
   rw[h]at f;have e:cX X k=10:=by unfold cX;rw[d,h];rfl
   rw[e]
   conv=>whnf
   refine⟨2,c.px,c.x,[.ss k],.sb true,rfl,by decide,by decide,.cons .same .nil,rfl,rfl,⟨k,rfl,congrArg AV.sb b.symm⟩,?_⟩
   conv=>whnf
   refine ae.nsb (λz=>?_) (λz=>?_)
   focus
    cases z
   conv=>whnf
   refine⟨3,c.pg,c.g,[.ss k],ug (some r),rfl,by decide,by decide,.cons .same .nil,rfl,rfl,⟨k,rfl,by rw[f]⟩,?_⟩
   conv=>whnf
   refine ae.sb (λz=>?_) (λz=>?_)
   focus
    conv=>whnf
    exact⟨_,c,.told rfl,a,bK rfl rfl rfl rfl rfl⟩
   cases z
theorem A8:ai 61 (iC 5 SpB QA):=xm (ay Un 5 _) (by kernel_rfl) SpB rfl (by decide) λX cs f v ⟨k,a,b,d⟩=>by
 subst a b d;exact⟨rfl,rfl,λc e=>J9 _ k c e⟩
def sa (H:AH) (n b:Nat) (A C:List HP) (Q:HP):AH:=(H.set (some (.sep (aF (A++C)))) aa b).set (some (.sep Q)) aa n
section
variable {H:AH} {n b:Nat} {A C:List HP} {Q:HP}
theorem NV{x:Nat}{o:AO}(hn:n<800000)(d:b<n)(h:H.get x=some o)(a:x≠b)(c:x≠n):(sa H n b A C Q).get x=some o:=PM.gne (by omega) c (PM.gne (by omega) a h)
theorem NW(hn:n<800000)(a:b<n):(sa H n b A C Q).get b=some (.sep (aF (A++C))):=PM.gne (by omega) (by omega) (PM.geq (by omega))
theorem qO(hn:n<800000):(sa H n b A C Q).get n=some (.sep Q):=PM.geq (by omega)
theorem lR{x:Nat}(d:n<x)(f:b<n)(h:H.get x=none):(sa H n b A C Q).get x=none:=by
 cases e:(sa H n b A C Q).get x with
 |none=>rfl
 |some o=>
  rcases PM.ak aa _ n x o e with⟨c,_⟩|⟨_,a⟩
  ·omega
  rcases PM.ak aa _ b x o a with⟨c,_⟩|⟨_,a⟩
  ·omega
  rw[h]at a;cases a
theorem eJ{k:Nat}:∀{m:Nat},iA H m n=true->k<m->H.get (n+k)=none:=λ{m} h a=>by
 cases e:H.get (n+k)with
 |none=>rfl
 |some o=>exact(nB h (q0j n k) (by omega) e).elim
theorem kI(h:iA H 5 n=true)(hn:n<700000)(a:b<n):lO (sa H n b A C Q) (n+1):=
 ⟨by omega,lR (by omega) a (eJ (k:=1) h (by decide)),lR (by omega) a (eJ (k:=2) h (by decide)),lR (by omega) a (eJ (k:=3) h (by decide)),lR (by omega) a (eJ (k:=4) h (by decide))⟩
end
def Wm(run:List AV->AH->Nat->PK->Prop)(args:List AV)(H:AH)(n:Nat)(κ:PK):Prop:=∃(b:Nat) (A C:List HP) (Q:HP) (a:AV->HP->Nat->Prop),b<n/\n<700000/\H.get n=none/\H.get b=some (.sep (aF (A++Q::C)))/\run args (sa H n b A C Q) (n+1) (λv e d=>∃c,e=(sa H n b A C Q).set (some (.sep c)) aa n/\a v c d)/\∀v c d,a v c d->κ v (H.set (some (.sep (aF (A++c::C)))) aa b) d
theorem ai.s1{f:FuncId}{run:List AV->AH->Nat->PK->Prop}(h:ai f run):ai f (Wm run):=λargs H n R ⟨b,A,C,Q,l,m,S,t,y,z,B⟩ D E F G K I c J=>by
 refine h.w.st args H n (λu v i=>∃a j,l u a i/\j=(sa H n b A C Q).set (some (.sep a)) aa n/\v=(j.set none aa n).set (some (.sep (aF (A++a::C)))) aa b) ⟨b,A,C,Q,m,by omega,t,y,_,z,λu j i ⟨a,p,q⟩=>?_⟩ D E F G K I c λL u v i w g r M N ⟨a,j,p,q,O⟩=>?_
 ·subst p;exact⟨a,PM.gne (by omega) (by omega) (NW (by omega) m),PM.geq (by omega),a,_,q,rfl,rfl⟩
 ·subst q O;refine J L u _ _ w g r (M.less λx o P=>?_) N (B u a i p);rcases PM.ak aa _ b x o P with⟨k,d⟩|⟨k,d⟩
  ·subst k;injection d with d;subst d;exact PM.geq (by omega)
  ·have s:x≠n:=λe=>by subst e;rw[t]at d;cases d
   exact PM.gne (by omega) k (PM.gne (by omega) s (PM.gne (by omega) s (NV (by omega) m d k s)))
def Wn(run:List AV->AH->Nat->PK->Prop)(args:List AV)(H:AH)(n:Nat)(κ:PK):Prop:=∃(b:Nat) (A C:List HP) (Q:HP) (a:AV->AO->Nat->Nat->Prop),b<n/\n<700000/\H.get n=none/\H.get b=some (.sep (aF (A++Q::C)))/\run args (sa H n b A C Q) (n+1) (λv d c=>∃o m,n<m/\m<900000/\d=(sa H n b A C Q).set (some o) aa m/\a v o m c)/\∀v o m c,a v o m c->κ v (H.set (some o) aa m) c
theorem ai.s2{f:FuncId}{run:List AV->AH->Nat->PK->Prop}(d:ai f run):ai f (Wn run):=λargs H n V ⟨b,A,C,Q,j,k,W,t,v,E,F⟩ G I J L K M c N=>by
 refine d.w.st args H n (λu y h=>∃o m i,n<m/\m<900000/\j u o m h/\i=(sa H n b A C Q).set (some o) aa m/\y=(i.set none aa n).set (some (.sep (aF (A++Q::C)))) aa b) ⟨b,A,C,Q,k,by omega,t,v,_,E,λu i h ⟨o,m,z,B,l,p⟩=>?_⟩ G I J L K M c λO u y h w g r P R ⟨o,m,i,z,B,l,p,S⟩=>?_
 ·subst l;exact⟨Q,PM.gne (by omega) (by omega) (NW (by omega) k),PM.gne (by omega) (by omega) (qO (by omega)),o,m,_,z,B,p,rfl,rfl⟩
 ·subst p S;refine N O u _ _ w g r (P.less λx T U=>?_) R (F u o m h l);rcases PM.ak aa _ m x T U with⟨s,a⟩|⟨s,a⟩
  ·subst s;injection a with a;subst a;exact PM.gne (by omega) (by omega) (PM.gne (by omega) (by omega) (PM.geq (by omega)))
  ·have D:x≠n:=λe=>by subst e;rw[t]at a;cases a
   by_cases q:x=b
   ·subst q;rw[v]at a;injection a with a;subst a;exact PM.geq (by omega)
   ·exact PM.gne (by omega) q (PM.gne (by omega) D (PM.gne (by omega) s (NV (by omega) k a q D)))
def mJ(B:Sr->Smp->List AV->AV->Prop)(args:List AV)(H:AH)(n:Nat)(κ:PK):Prop:=match args with
 |x::a=>∃(b:Nat) (A C:List HP) (p:Nat×Nat) (S:Sr) (L:Smp) (v:AV),x=aK p/\b<n/\n<700000/\iA H 5 n=true/\H.get b=some (.sep (aF (A++cL p S L::C)))/\B S L a v/\κ v H (n+4)
 |_=>False
theorem A9(B:Sr->Smp->List AV->AV->Prop):fU (mJ B):=λargs H n l a=>by
 unfold mJ at*;split at a
 ·obtain⟨b,A,C,p,S,L,v,c,d,e,f,g,i,j⟩:=a;exact⟨v,H,n+4,j,λ_ _ h=>h,q0j _ _,λk h=>⟨b,A,C,p,S,L,v,c,d,e,f,g,i,h⟩⟩
 ·exact a.elim
theorem ai.ql{f:FuncId}{B:Sr->Smp->List AV->AV->Prop}(h:ai f (la B)):ai f (mJ B):=λargs H n e a=>by
 unfold mJ at a;split at a
 ·obtain⟨b,A,C,p,S,L,v,g,c,i,d,j,l,m⟩:=a;exact h.sl _ H n e ⟨b,A,C,cL p S L,v,n+4,c,by omega,eJ (k:=0) d (by decide),j,by omega,⟨n,p,S,L,v,g,by omega,qO (H:=H) (b:=b) (A:=A) (C:=C) (by omega),kI d i c,l,rfl,rfl,rfl⟩,m⟩
 ·exact a.elim
def xy(B:Smp->List AV->Smp->Prop)(args:List AV)(H:AH)(n:Nat)(κ:PK):Prop:=match args with
 |x::a=>∃(b:Nat) (A C:List HP) (p:Nat×Nat) (S:Sr) (L O:Smp),x=aK p/\b<n/\n<700000/\iA H 5 n=true/\H.get b=some (.sep (aF (A++cL p S L::C)))/\B L a O/\κ (.rw (n+4) 0 O.length 2 0) (H.set (some (.cells (smp O) true)) aa (n+4)) (n+5)
 |_=>False
theorem Uo(B:Smp->List AV->Smp->Prop):fU (xy B):=λargs H n r a=>by
 unfold xy at*;split at a
 ·obtain⟨b,A,C,p,S,L,O,f,g,i,d,j,l,m⟩:=a;exact⟨_,_,_,m,λx o c=>PM.gne (by omega) (λe=>by subst e;rw[eJ (k:=4) d (by decide)]at c;cases c) c,q0j _ _,λq h=>⟨b,A,C,p,S,L,O,f,g,i,d,j,l,h⟩⟩
 ·exact a.elim
theorem ai.qm{f:FuncId}{B:Smp->List AV->Smp->Prop}(h:ai f (wW B)):ai f (xy B):=λargs H n i a=>by
 unfold xy at a;split at a
 ·obtain⟨b,A,C,p,S,L,O,j,c,d,e,l,q,r⟩:=a;refine h.s2 _ H n i ⟨b,A,C,cL p S L,λv o m g=>v= .rw (n+4) 0 O.length 2 0/\o= .cells (smp O) true/\m=n+4/\g=n+5,c,d,eJ (k:=0) e (by decide),l,⟨n,p,S,L,O,j,by omega,qO (by omega),kI e d c,q,?_⟩,λv o m g ⟨s,t,u,w⟩=>by subst s t u w;exact r⟩;exact⟨_,n+4,by omega,by omega,rfl,rfl,rfl,rfl,rfl⟩
 ·exact a.elim
def HO(args:List AV)(H:AH)(n:Nat)(κ:PK):Prop:=match args with
 | [x,y,z]=>∃(b:Nat) (A C:List HP) (p:Nat×Nat) (S:Sr) (L:Smp) (t v q:Int) (a:Sr) (c:Smp) (e:Int),x=aK p/\b<n/\n<700000/\iA H 5 n=true/\H.get b=some (.sep (aF (A++cL p S L::C)))/\nr y t v/\mk z= .si .i64 q/\aN v/\L.length<=40000/\fc S L t v q=((a,c),e)/\(iz a c->κ (.si .i64 e) (H.set (some (.sep (aF (A++cL p a c::C)))) aa b) (n+5))
 |_=>False
theorem NX:ai 72 HO:=λargs H n m a=>by
 unfold HO at a;split at a
 ·obtain⟨b,A,C,p,S,L,t,v,q,c,d,e,r,h,i,j,s,w,x,y,z,f,g⟩:=a;refine TQ.s1 _ H n m ⟨b,A,C,cL p S L,λu B l=>iz c d/\u= .si .i64 e/\B=cL p c d/\l=n+5,h,i,eJ (k:=0) j (by decide),s,⟨n,p,S,L,t,v,q,c,d,e,r,by omega,qO (by omega),kI j i h,w,x,y,z,f,λho=>⟨_,rfl,ho,rfl,rfl,rfl⟩⟩,λv o l ⟨D,E,F,G⟩=>by subst E F G;exact g D⟩
 ·exact a.elim
def zd(args:List AV)(H:AH)(n:Nat)(κ:PK):Prop:=match args with
 | [x,y,z]=>∃(b:Nat) (A C:List HP) (p:Nat×Nat) (S:Sr) (L:Smp) (a c:Int) (d:Smp) (m:Nat),x=aK p/\b<n/\n<700000/\iA H 5 n=true/\H.get b=some (.sep (aF (A++cL p S L::C)))/\mk y= .si .i64 a/\mk z= .si .i64 c/\L.length<=40000/\aJ L a c=d/\L.length-d.length=m/\(iz S d->κ (.si .i64 (m:Int)) (H.set (some (.sep (aF (A++cL p S d::C)))) aa b) (n+5))
 |_=>False
theorem Ba:ai 100 zd:=λargs H n r d=>by
 unfold zd at d;split at d
 ·obtain⟨b,A,C,p,S,L,a,c,e,m,s,i,j,l,t,w,x,y,f,g,h⟩:=d;refine TS.s1 _ H n r ⟨b,A,C,cL p S L,λu z q=>iz S e/\u= .si .i64 (m:Int)/\z=cL p S e/\q=n+5,i,j,eJ (k:=0) l (by decide),t,⟨n,p,S,L,a,c,e,m,s,by omega,qO (by omega),kI l j i,w,x,y,f,g,λho=>⟨_,rfl,ho,rfl,rfl,rfl⟩⟩,λv o q ⟨B,D,E,F⟩=>by subst D E F;exact h B⟩
 ·exact d.elim
def NY(args:List AV)(H:AH)(n:Nat)(κ:PK):Prop:=match args with
 | [x,y,z]=>∃(b:Nat) (A C:List HP) (p:Nat×Nat) (S:Sr) (L:Smp) (r q:Int) (a:Sr) (c:Smp) (e:Int),x=aK p/\b<n/\n<700000/\iA H 5 n=true/\H.get b=some (.sep (aF (A++cL p S L::C)))/\mk y= .si .i64 r/\mk z= .si .i64 q/\L.length<=40000/\jP S L r q=((a,c),e)/\(iz a c->κ (.si .i64 e) (H.set (some (.sep (aF (A++cL p a c::C)))) aa b) (n+5))
 |_=>False
theorem Uq:ai 108 NY:=λargs H n m a=>by
 unfold NY at a;split at a
 ·obtain⟨b,A,C,p,S,L,r,q,c,d,e,s,h,i,j,t,w,x,y,f,g⟩:=a;refine TT.s1 _ H n m ⟨b,A,C,cL p S L,λu z l=>iz c d/\u= .si .i64 e/\z=cL p c d/\l=n+5,h,i,eJ (k:=0) j (by decide),t,⟨n,p,S,L,r,q,c,d,e,s,by omega,qO (by omega),kI j i h,w,x,y,f,λho=>⟨_,rfl,ho,rfl,rfl,rfl⟩⟩,λv o l ⟨B,D,E,F⟩=>by subst D E F;exact g B⟩
 ·exact a.elim
def NZ(args:List AV)(H:AH)(n:Nat)(κ:PK):Prop:=match args with
 | [x]=>∃(b:Nat) (A C:List HP) (p:Nat×Nat) (S:Sr) (L:Smp),x=aK p/\b<n/\n<700000/\iA H 9 n=true/\H.get b=some (.sep (aF (A++cL p S L::C)))/\∀a,κ (aK a) (H.set (some (.sep (cL a S L))) aa (n+1)) (n+8)
 |_=>False
theorem N0:ai 58 NZ:=λargs H n h e=>by
 unfold NZ at e;split at e
 ·obtain⟨b,A,C,p,S,L,i,a,f,c,j,l⟩:=e;refine Qk.s2 _ H n h ⟨b,A,C,cL p S L,λv o m g=>∃d,v=aK d/\o= .sep (cL d S L)/\m=n+1/\g=n+8,a,f,eJ (k:=0) c (by decide),j,⟨n,p,S,L,i,by omega,qO (by omega),kI (DK (by decide) c) f a,⟨by omega,lR (by omega) a (eJ (k:=5) c (by decide)),lR (by omega) a (eJ (k:=6) c (by decide)),lR (by omega) a (eJ (k:=7) c (by decide)),lR (by omega) a (eJ (k:=8) c (by decide))⟩,λd=>⟨_,n+1,by omega,by omega,rfl,d,rfl,rfl,rfl,rfl⟩⟩,λv o m g ⟨d,q,r,s,t⟩=>by subst q r s t;exact l d⟩
 ·exact e.elim
theorem R6:ai 24 (mJ No):=RX.ql
theorem Wo:ai 85 (mJ TM):=VS.ql
theorem Wp:ai 86 (mJ TN):=VT.ql
theorem Wq:ai 18 (mJ Qg):=RY.ql
theorem R7:ai 21 (xy Dm):=RZ.qm
theorem pG(x:Int):aN (IntKind.i64.wrap x):=by
 rw[IntKind.wrap_i64];unfold aN;omega
theorem N1(a b:Int):aN (EL a b):=by
 unfold EL jZ;have:=pG (a+b);split
 ·split<;>exact⟨by decide,by decide⟩
 ·exact this
theorem QB{L:Smp}(h:∀x∈L,aN x.2):aN (nU L).n/\aN (nU L).sum/\aN (nU L).least/\aN (nU L).great/\aN (nU L).first/\aN (nU L).last:=by
 have main:∀(L:Smp) (s:SS),(∀x∈L,aN x.2)->(aN s.n/\aN s.sum/\aN s.least/\aN s.great/\aN s.first/\aN s.last)->(aN (L.foldl (λs x=>xW s x.2) s).n/\aN (L.foldl (λs x=>xW s x.2) s).sum/\aN (L.foldl (λs x=>xW s x.2) s).least/\aN (L.foldl (λs x=>xW s x.2) s).great/\aN (L.foldl (λs x=>xW s x.2) s).first/\aN (L.foldl (λs x=>xW s x.2) s).last):=λL=>by
  induction L with
  |nil=>exact λs _ h=>h
  |cons x L b=>
   intro s a ⟨e,f,g,i,j,k⟩;have l:=a x Y6;refine b (xW s x.2) (λy c=>a y (X7 _ c)) ?_;have w:=pG (s.n+1);have d:=N1 s.sum x.2;unfold aN at*;unfold xW;split<;>exact⟨w,d,by dsimp only;omega,by dsimp only;omega,by dsimp only;omega,by dsimp only;omega⟩
 have z:aN 0:=⟨by decide,by decide⟩;exact main L ss0 h ⟨z,z,z,z,z,z⟩
theorem Ka{k:Int}{L:Smp}(h:∀x∈L,aN x.2):aN (zX k L):=by
 obtain⟨a,b,c,d,e,f⟩:=QB h;have z:aN 0:=⟨by decide,by decide⟩;have w:=pG ((nU L).great-(nU L).least);unfold zX OV Gi
 repeat' split
 all_goals first|exact z|assumption|exact⟨by decide,by decide⟩
def bB(r:Rl)(t:Int):Int:=fV t r.size r.align
def eB(r:Rl)(t:Int):Int:=vW (bB r t) r.size r.align
theorem DL{t s a:Int}:0<=vW t s a/\vW t s a<=2199023255552:=by
 have:=jy (t:=t) (s:=s) (a:=a);unfold vW;split
 ·rename_i h;simp only[sW,decide_eq_true_eq]at h;split<;>omega
 ·omega
def inB(r:Rl)(t:Int)(L:Smp):Smp:=ba (bB r t) (eB r t-1) L
def DM(r:Rl)(t:Int)(S:Sr):Prop:=S.mx<0∨bB r S.mx<eB r t
instance (r:Rl)(t:Int)(S:Sr):Decidable (DM r t S):=by unfold DM;infer_instance
def gK(r:Rl)(t:Int)(s d:fy):Sr×Smp:=if DM r t s.S then(d.S,d.L)else if OZ r.kind (inB r t s.L)=true then(fc d.S d.L (bB r t) (zX r.kind (inB r t s.L)) 3).1 else(d.S,aJ d.L (bB r t) (bB r t))
def cg(X:SpV)(r:Rl)(t:Int):SpV:=match X.K r.src,X.K r.dst with
 |some s,some d=>fJ X r.dst {d with S:=(gK r t s d).1,L:=(gK r t s d).2}
 |_,_=>X
theorem Bb{X:SpV}{k:Tx}{e:fy}(h:X.K k=some e):fJ X k e=X:=by
 unfold fJ
 have:(λx=>if x=k then some e else X.K x)=X.K:=funext λx=>by
  by_cases q:x=k
  ·subst q;rw[if_pos rfl,h]
  ·rw[if_neg q]
 rw[this]
def Ur:DT:=[(1000002,[]),(1,[(some 1000000,[14,15,14,10,14,12,14,13,15,10,15,12,15,13,16,10,16,12,16,13]),(none,[0,1,2,3,4,5,6,7,8,9,11,10,12,13,14,15,16,17]),(none,[0,1,2,3,4,5,6,7,8,9,11,10,12,13,15,14,16,17]),(none,[0,1,2,3,4,5,6,7,8,9,11,10,12,14,13,15,16,17]),(none,[0,1,2,3,4,5,6,7,8,9,11,10,12,14,15,13,16,17]),(none,[0,1,2,3,4,5,6,7,8,9,11,10,12,14,15,16,13,17]),(none,[0,1,2,3,4,5,6,7,8,9,11,10,12,15,13,14,16,17]),(none,[0,1,2,3,4,5,6,7,8,9,11,10,12,15,14,13,16,17]),(none,[0,1,2,3,4,5,6,7,8,9,11,10,12,15,14,16,13,17]),(none,[0,1,2,3,4,5,6,7,8,9,11,10,14,12,13,15,16,17]),(none,[0,1,2,3,4,5,6,7,8,9,11,10,14,12,15,13,16,17]),(none,[0,1,2,3,4,5,6,7,8,9,11,10,14,12,15,16,13,17]),(none,[0,1,2,3,4,5,6,7,8,9,11,10,14,15,12,13,16,17]),(none,[0,1,2,3,4,5,6,7,8,9,11,10,14,15,12,16,13,17]),(none,[0,1,2,3,4,5,6,7,8,9,11,10,14,15,16,12,13,17]),(none,[0,1,2,3,4,5,6,7,8,9,11,10,15,12,13,14,16,17]),(none,[0,1,2,3,4,5,6,7,8,9,11,10,15,12,14,13,16,17]),(none,[0,1,2,3,4,5,6,7,8,9,11,10,15,12,14,16,13,17]),(none,[0,1,2,3,4,5,6,7,8,9,11,10,15,14,12,13,16,17]),(none,[0,1,2,3,4,5,6,7,8,9,11,10,15,14,12,16,13,17]),(none,[0,1,2,3,4,5,6,7,8,9,11,10,15,14,16,12,13,17]),(none,[0,1,2,3,4,5,6,7,8,9,11,12,14,10,13,15,16,17]),(none,[0,1,2,3,4,5,6,7,8,9,11,12,14,10,15,13,16,17]),(none,[0,1,2,3,4,5,6,7,8,9,11,12,14,10,15,16,13,17]),(none,[0,1,2,3,4,5,6,7,8,9,11,12,14,15,10,13,16,17]),(none,[0,1,2,3,4,5,6,7,8,9,11,12,14,15,10,16,13,17]),(none,[0,1,2,3,4,5,6,7,8,9,11,12,14,15,16,10,13,17]),(none,[0,1,2,3,4,5,6,7,8,9,11,12,15,10,13,14,16,17]),(none,[0,1,2,3,4,5,6,7,8,9,11,12,15,10,14,13,16,17]),(none,[0,1,2,3,4,5,6,7,8,9,11,12,15,10,14,16,13,17]),(none,[0,1,2,3,4,5,6,7,8,9,11,12,15,14,10,13,16,17]),(none,[0,1,2,3,4,5,6,7,8,9,11,12,15,14,10,16,13,17]),(none,[0,1,2,3,4,5,6,7,8,9,11,12,15,14,16,10,13,17]),(none,[0,1,2,3,4,5,6,7,8,9,11,14,10,12,13,15,16,17]),(none,[0,1,2,3,4,5,6,7,8,9,11,14,10,12,15,13,16,17]),(none,[0,1,2,3,4,5,6,7,8,9,11,14,10,12,15,16,13,17]),(none,[0,1,2,3,4,5,6,7,8,9,11,14,10,15,12,13,16,17]),(none,[0,1,2,3,4,5,6,7,8,9,11,14,10,15,12,16,13,17]),(none,[0,1,2,3,4,5,6,7,8,9,11,14,10,15,16,12,13,17]),(none,[0,1,2,3,4,5,6,7,8,9,11,14,12,15,10,13,16,17]),(none,[0,1,2,3,4,5,6,7,8,9,11,14,12,15,10,16,13,17]),(none,[0,1,2,3,4,5,6,7,8,9,11,14,12,15,16,10,13,17]),(none,[0,1,2,3,4,5,6,7,8,9,11,14,15,10,12,13,16,17]),(none,[0,1,2,3,4,5,6,7,8,9,11,14,15,10,12,16,13,17]),(none,[0,1,2,3,4,5,6,7,8,9,11,14,15,10,16,12,13,17]),(none,[0,1,2,3,4,5,6,7,8,9,11,14,15,12,16,10,13,17]),(none,[0,1,2,3,4,5,6,7,8,9,11,14,15,16,10,12,13,17]),(none,[0,1,2,3,4,5,6,7,8,9,11,15,10,12,13,14,16,17]),(none,[0,1,2,3,4,5,6,7,8,9,11,15,10,12,14,13,16,17]),(none,[0,1,2,3,4,5,6,7,8,9,11,15,10,12,14,16,13,17]),(none,[0,1,2,3,4,5,6,7,8,9,11,15,10,14,12,13,16,17]),(none,[0,1,2,3,4,5,6,7,8,9,11,15,10,14,12,16,13,17]),(none,[0,1,2,3,4,5,6,7,8,9,11,15,10,14,16,12,13,17]),(none,[0,1,2,3,4,5,6,7,8,9,11,15,12,14,10,13,16,17]),(none,[0,1,2,3,4,5,6,7,8,9,11,15,12,14,10,16,13,17]),(none,[0,1,2,3,4,5,6,7,8,9,11,15,12,14,16,10,13,17]),(none,[0,1,2,3,4,5,6,7,8,9,11,15,14,10,12,13,16,17]),(none,[0,1,2,3,4,5,6,7,8,9,11,15,14,10,12,16,13,17]),(none,[0,1,2,3,4,5,6,7,8,9,11,15,14,10,16,12,13,17]),(none,[0,1,2,3,4,5,6,7,8,9,11,15,14,12,16,10,13,17]),(none,[0,1,2,3,4,5,6,7,8,9,11,15,14,16,10,12,13,17])]),
 (4,[(some 0,[6]),(some 0,[38]),(none,[39]),(some 0,[40]),(some 0,[41]),(some 0,[9,42]),(some 0,[6,42]),(some 0,[44,42]),(none,[45,42]),(some 1,[4,42]),(some 2,[47,42]),(some 3,[4,42]),(some 4,[49,42]),(none,[46,48,50,42]),(some 0,[43,51,42])]),
 (5,[(some 0,[4]),(some 0,[55]),(some 0,[6]),(some 0,[57]),(some 0,[8]),(some 0,[9]),(some 0,[60]),(none,[58,59,61]),(none,[56,62]),(some 0,[63]),(some 0,[54]),(some 0,[54]),(some 0,[64])])]
def KBk:FuncId->EP:=bb 75 Ur (cf 24 (mJ No) (cf 21 (xy Dm) (cf 54 (vR fV) (cf 55 (vR vW) (cf 56 (yA 9223372036854775807 tU) (aq 72 HO (aq 100 zd evP)))))))
theorem Us:aU KBk:=au (aO (aO (aO (aO (aO (ag (ag az Ba) NX) Sz Sw) RE Cl) zW Cl) R7 (Uo _)) R6 (A9 _)) (by kernel_rfl) (by kernel_rfl)
def bkJ (c:SpC) (r:Rl) (t:Int) (p1:Nat×Nat) (z1:Int) (p2:Nat×Nat) (z2:Int):AE×AH:=(mkE [(0,.ptr 0 (0)),(2,.si .i64 (t)),(4,.ptr 5 (0)),(6,.ptr 6 (0)),(7,.ptr 7 (0))],mkH [(0,.cells [.map 1,aK c.px,aK c.pg] true),(1,c.m.O kT gE),(2,.sep (IxB.Q c.x c.px)),(3,.sep (GrB.Q c.g c.pg)),(4,.sep (aF (aM c.m.A))),(5,.cells (ruC r) true),(6,.cells ([aK p1,.si .i64 z1]) true),(7,.cells ([aK p2,.si .i64 z2]) true)])
theorem HQ{c:SpC}{r:Rl}{t:Int}{p1:Nat×Nat}{z1:Int}{p2:Nat×Nat}{z2:Int}{p n:Nat}{σ:AE}{H:AH}(a:Nat)(d:Nat)(G:a≠0/\a≠1/\a≠2/\a≠3/\a≠4/\a≠5/\a≠d/\d≠0/\d≠1/\d≠2/\d≠3/\d≠4/\d≠5)(I:p<=6)(j:aj (pa 0) σ= .ptr 0 (0))(o:mk (aj (pa 2) σ)= .si .i64 (t))(q:aj (pa 4) σ= .ptr 5 (0))(s:aj (pa 6) σ= .ptr a (0))(u:aj (pa 7) σ= .ptr d (0))(v:H.get 0=some (.cells [.map 1,aK c.px,aK c.pg] true))(w:H.get 1=some (c.m.O kT gE))(z:H.get 2=some (.sep (IxB.Q c.x c.px)))(B:H.get 3=some (.sep (GrB.Q c.g c.pg)))(C:H.get 4=some (.sep (aF (aM c.m.A))))(D:H.get 5=some (.cells (ruC r) true))(E:∃l,H.get a=some (.cells l true)/\mz H 8 (λb=>if b=6 then a else if b=7 then d else b) l ([aK p1,.si .i64 z1]))(F:∃l,H.get d=some (.cells l true)/\mz H 8 (λb=>if b=6 then a else if b=7 then d else b) l ([aK p2,.si .i64 z2])):Cov p σ H n ((bkJ c r t p1 z1 p2 z2).1,(bkJ c r t p1 z1 p2 z2).2,8):=
 Cov.ofB (λb=>if b=6 then a else if b=7 then d else b) (by omega) (λb e=>by repeat' rw[if_neg (by omega)]) ⟨.ptr (by decide) j,.int o,.ptr (by decide) q,.ptr (by decide) s,.ptr (by decide) u,trivial⟩ ⟨.inl ⟨_,v,ao.b7 (k:=2) rfl (by decide) (λb e=>by rw[if_neg (by omega),if_neg (by omega)])⟩,.inl ⟨_,w,ao.b7 (k:=0) (bl dQ uh) (by decide) (λb e=>absurd e (q0f b))⟩,.inl ⟨_,z,ao.sep _⟩,.inl ⟨_,B,ao.sep _⟩,.inl ⟨_,C,ao.sep _⟩,.inl ⟨_,D,ao.b7 (k:=0) rfl (by decide) (λb e=>absurd e (q0f b))⟩,.inl (E.elim λl h=>⟨_,h.1,ao.st h.2⟩),.inl (F.elim λl h=>⟨_,h.1,ao.st h.2⟩),trivial⟩ rfl (λx f y i=>by simp only[Z4,Z5,or_false]at f i;rcases f with rfl|rfl|rfl|rfl|rfl|rfl|rfl|rfl<;>rcases i with rfl|rfl|rfl|rfl|rfl|rfl|rfl|rfl<;>simp<;>omega)
theorem N2(X:SpV)(r:Rl)(t:Int)(c:SpC)(i:bE X c){s d:fy}(j:X.K r.src=some s)(hd:X.K r.dst=some d)(ls:s.L.length<=30000)(T:d.L.length<=30000):ax KBk 6 75 [.ptr 0 0,gR r,.si .i64 t] (mkH (bH (spO c) 0)) 5 (gi SpB (cg X r t) (.tup [])):=by
 obtain⟨h,p,u,O,U,V,v⟩:=i.at1 j;obtain⟨b,F,G,w,H,I,J⟩:=i.at1 hd
 conv=>whnf
 refine yl.mk Unit 8 (λ_=>bkJ c r t h s.z b d.z) ?_ ?_
 focus
  conv=>whnf
  refine⟨?_,?_,?_,?_,?_,?_,?_,?_,?_,?_,?_,?_,?_,?_,?_,?_,?_,?_,?_,?_,?_,?_,?_,?_,?_,?_,?_,?_,?_,?_,?_,?_,?_,?_,?_,?_,?_,?_,?_,?_,?_,?_,?_,?_,?_,?_,?_,?_,?_,?_,?_,?_,?_,?_,?_,?_,?_,?_,?_,?_,trivial⟩
  all_goals
   conv=>whnf
   refine Ask.mk _ (aZ (m:=c.m) (g:=gE) (k:=r.src) bQ nX rfl rfl rfl pM O) ?_
   conv=>whnf
   refine Ask.mk _ (aZ (m:=c.m) (g:=gE) (k:=r.dst) bQ nX rfl rfl rfl pM w) ?_
   conv=>whnf
   first
    |exact⟨(),HQ (c:=c) (r:=r) (t:=t) (p1:=h) (z1:=s.z) (p2:=b) (z2:=d.z) 6 7 (by decide) (by decide) rfl rfl rfl rfl rfl rfl rfl rfl rfl rfl rfl ⟨_,rfl,.cons (.aK rfl) (.cons (.int rfl) .nil)⟩ ⟨_,rfl,.cons (.aK rfl) (.cons (.int rfl) .nil)⟩⟩
    |exact⟨(),HQ (c:=c) (r:=r) (t:=t) (p1:=h) (z1:=s.z) (p2:=b) (z2:=d.z) 7 6 (by decide) (by decide) rfl rfl rfl rfl rfl rfl rfl rfl rfl rfl rfl ⟨_,rfl,.cons (.aK rfl) (.cons (.int rfl) .nil)⟩ ⟨_,rfl,.cons (.aK rfl) (.cons (.int rfl) .nil)⟩⟩
 intro _;have W:=jy (t:=t) (s:=r.size) (a:=r.align);have Z:=DL (t:=bB r t) (s:=r.size) (a:=r.align);have P:IntKind.i64.wrap (eB r t-1)=eB r t-1:=al (by unfold eB;omega) (by unfold eB;omega)
 have M:DM r t s.S->cg X r t=X:=λq=>by
  unfold cg;rw[j,hd];show fJ X r.dst {d with S:=(gK r t s d).1,L:=(gK r t s d).2}=X;unfold gK;rw[if_pos q];exact Bb hd
 conv=>whnf
 refine⟨4,aM p,aM u,h,s.S,s.L,_,rfl,by decide,by decide,rfl,congrArg (λx=>some (AO.sep (aF x))) v,⟨rfl,rfl⟩,?_⟩
 conv=>whnf
 refine ae.dec (λl=>?_) (λl=>?_)
 focus
  have e:=M (.inl l);rw[e]
  conv=>whnf
  exact⟨_,c,.told rfl,i,bK rfl rfl rfl rfl rfl⟩
 conv=>whnf
 refine⟨4,aM p,aM u,h,s.S,s.L,_,rfl,by decide,by decide,rfl,congrArg (λx=>some (AO.sep (aF x))) v,⟨rfl,rfl⟩,?_⟩
 conv=>whnf
 refine ae.dec (λz2=>?_) (λz2=>?_)
 focus
  have e:=M (.inr z2);rw[e]
  conv=>whnf
  exact⟨_,c,.told rfl,i,bK rfl rfl rfl rfl rfl⟩
 have n:¬DM r t s.S:=λq=>q.elim l z2
 conv=>whnf
 refine⟨4,aM p,aM u,h,s.S,s.L,inB r t s.L,rfl,by decide,by decide,rfl,congrArg (λx=>some (AO.sep (aF x))) v,⟨_,_,bB r t,eB r t-1,rfl,rfl,congrArg (AV.si .i64) P,rfl⟩,?_⟩
 conv=>whnf
 refine⟨inB r t s.L,mo.Nq rfl rfl,X9 (q0y _ _) (by omega),?_⟩
 conv=>whnf
 refine ae.nsb (λy=>?_) (λy=>?_)
 focus
  obtain⟨f,o⟩:∃f,f=aJ d.L (bB r t) (bB r t):=⟨_,rfl⟩
  conv=>whnf
  refine⟨4,aM F,aM G,b,d.S,d.L,bB r t,bB r t,f,_,rfl,by decide,by decide,rfl,congrArg (λx=>some (AO.sep (aF x))) J,rfl,rfl,by omega,o.symm,rfl,λho=>?_⟩;obtain⟨A,B,C⟩:=i.xx hd w H I ho
  have e:cg X r t=fJ X r.dst {d with S:=d.S,L:=f}:=by
   unfold cg;rw[j,hd];show fJ X r.dst {d with S:=(gK r t s d).1,L:=(gK r t s d).2}=_;unfold gK;rw[if_neg n,if_neg (by rw[y];simp),o]
  rw[e]
  conv=>whnf
  exact⟨_,{c with m:=c.m.put r.dst ⟨b,d.S,f,d.z⟩},.told rfl,A,bK rfl (congrArg some B.symm) rfl rfl (congrArg (λx=>some (AO.sep (aF x))) C.symm)⟩
 obtain⟨Y,N⟩:∃Y,Y=fc d.S d.L (bB r t) (zX r.kind (inB r t s.L)) 3:=⟨_,rfl⟩;obtain⟨⟨D,f⟩,e⟩:=Y;have E:aN (zX r.kind (inB r t s.L)):=Ka λx Q=>((i.ser _ _ j).dR x (q0v.1 Q).1).2
 conv=>whnf
 refine⟨4,aM F,aM G,b,d.S,d.L,bB r t,zX r.kind (inB r t s.L),3,D,f,e,rfl,by decide,by decide,rfl,congrArg (λx=>some (AO.sep (aF x))) J,⟨_,_,rfl,rfl,rfl⟩,rfl,E,by omega,N.symm,λho=>?_⟩;obtain⟨A,B,C⟩:=i.xx hd w H I ho
 have R:cg X r t=fJ X r.dst {d with S:=D,L:=f}:=by
  unfold cg;rw[j,hd];show fJ X r.dst {d with S:=(gK r t s d).1,L:=(gK r t s d).2}=_;unfold gK;rw[if_neg n,if_pos y,<-N]
 rw[R]
 conv=>whnf
 exact⟨_,{c with m:=c.m.put r.dst ⟨b,D,f,d.z⟩},.told rfl,A,bK rfl (congrArg some B.symm) rfl rfl (congrArg (λx=>some (AO.sep (aF x))) C.symm)⟩
def Ut(X:SpV)(cs:List AV)(a:SpV)(v:AV):Prop:=∃r t s d,cs=[gR r,.si .i64 t]/\X.K r.src=some s/\X.K r.dst=some d/\s.L.length<=30000/\d.L.length<=30000/\a=cg X r t/\v= .tup []
theorem N3:ai 75 (iC 5 SpB Ut):=xm (ay Us 6 _) (by kernel_rfl) SpB rfl (by decide) λX cs k v ⟨r,t,s,d,a,b,e,f,g,h,i⟩=>by
 subst a h i;exact⟨rfl,rfl,λc j=>N2 X r t c j b e f g⟩
end Go.Proofs.YtflehenfikoniaaGreat
namespace Go.Proofs.YtflehenfikoniaaGreat
open Go Go.RowKit
section
variable {V:Type}
theorem oX{A:List (Tx×V)}(h:(A.map Prod.fst).Nodup){k:Tx}{v:V}:(k,v)∈A<->aL A k=some v:=⟨eI h,cR⟩
open Classical in
def xz (f:Tx->Option V):List (Tx×V):=if h:∃A:List (Tx×V),(A.map Prod.fst).Nodup/\∀k,aL A k=f k then h.choose else []
theorem mK{f:Tx->Option V}{A:List (Tx×V)}(a:(A.map Prod.fst).Nodup)(b:∀k,aL A k=f k):((xz f).map Prod.fst).Nodup/\∀k,aL (xz f) k=f k:=by
 have h:∃A:List (Tx×V),(A.map Prod.fst).Nodup/\∀k,aL A k=f k:=⟨A,a,b⟩;unfold xz;rw[dif_pos h];exact h.choose_spec
end
theorem xA{A B:List Tx}(h:∀x,x∈A<->x∈B):aH A=aH B:=th (bf A).1 (bf B).1 λx=>by rw[(bf A).2,(bf B).2];exact h x
theorem Bd{A B:Gr}(b:(A.map Prod.fst).Nodup)(c:(B.map Prod.fst).Nodup)(h:∀k,aL A k=aL B k)(so:Rl->Bool):pkF A so=pkF B so:=by
 have a:∀e:Tx×Rl,e∈A<->e∈B:=λe=>by
  obtain⟨k,v⟩:=e;rw[oX b,oX c,h]
 have f:aH ((A.filter λe=>so e.2).map Prod.fst)=aH ((B.filter λe=>so e.2).map Prod.fst):=xA λx=>by
  simp only[q0m,q0v,a]
 have g:aH ((A.filter λe=>so e.2).map λe=>e.2.src)=aH ((B.filter λe=>so e.2).map λe=>e.2.src):=xA λx=>by
  simp only[q0m,q0v,a]
 have i:∀d,rul A d=rul B d:=λd=>by unfold rul;rw[h]
 unfold pkF;rw[f,g];congr 1;funext s;unfold pkS;have:rul A=rul B:=funext i;rw[this]
theorem DN{a:Type}(p:a->Bool):∀N:List a,(N.filter p).length+(N.filter λd=>!p d).length=N.length
 | []=>rfl
 |d::N=>by
  have b:=DN p N;cases h:p d<;>simp[h]<;>omega
theorem ze{i c:Type} [DecidableEq c](f:i->c):∀(S:List c) (N:List i),S.Nodup->(S.flatMap λs=>N.filter λd=>decide (f d=s)).length<=N.length
 | [],N,_=>by simp
 |s::S,N,h=>by
  have j:=q2m.1 h;have k:=ze f S (N.filter λd=>!decide (f d=s)) j.2
  have e:(S.flatMap λa=>N.filter λd=>decide (f d=a))=S.flatMap λa=>(N.filter λd=>!decide (f d=s)).filter λd=>decide (f d=a):=by
   have:∀b:List c,(∀x∈b,x≠s)->(b.flatMap λa=>N.filter λd=>decide (f d=a))=b.flatMap λa=>(N.filter λd=>!decide (f d=s)).filter λd=>decide (f d=a):=λb=>by
    induction b with
    |nil=>intro _;rfl
    |cons x b k=>
     intro g;rw[q4b,q4b,k λy m=>g y (X7 _ m)];congr 1;rw[List.filter_filter];refine List.filter_congr λd _=>?_
     have:=g x Y6;by_cases q:f d=x
     ·have n:¬f d=s:=λe=>this (q.symm.trans e)
      simp[q,this]
     ·simp[q]
   exact this S λx g e=>j.1 (e▸g)
  rw[q4b,Z6,e];have l:=DN (λd=>decide (f d=s)) N;omega
theorem tu{L:List Tx}(h:UpT L):L.Nodup:=h.imp λ{a b} q e=>by
 subst e;rw[gZ]at q;cases q
theorem HS(R:Gr)(so:Rl->Bool):(pkF R so).length<=R.length:=by
 have b:=ze (λd=>(rul R d).src) (aH ((R.filter λe=>so e.2).map λe=>e.2.src)) (aH ((R.filter λe=>so e.2).map Prod.fst)) (tu (bf _).1);have a:=dh ((R.filter λe=>so e.2).map Prod.fst);rw[Y0]at a;have c:=nE (p:=λe:Tx×Rl=>so e.2) R
 have e:(pkF R so).length=((aH ((R.filter λe=>so e.2).map λe=>e.2.src)).flatMap λs=>(aH ((R.filter λe=>so e.2).map Prod.fst)).filter λd=>decide ((rul R d).src=s)).length:=by
  unfold pkF pkS;rw[List.length_flatMap,List.length_flatMap];congr 1;refine q2s λs _=>?_
  rw[Y0]
 omega
section
variable {V:Type}
def mpA(A:List (Tx×V)):MpC Tx V:=⟨A,List.range A.length,A.length⟩
theorem Be{A:List (Tx×V)}(h:(A.map Prod.fst).Nodup):(mpA A).Ok:=⟨List.length_range,List.nodup_range,λx a=>q2g.1 a,h⟩
theorem pH{A:List (Tx×V)}(h:(A.map Prod.fst).Nodup)(k x:Tx):aL (dt A k) x=if x=k then none else aL A x:=by
 have:=DC (Be h) k x;rw[xn]at this;exact this
theorem pI{A:List (Tx×V)}(h:(A.map Prod.fst).Nodup)(k:Tx)(v:V)(x:Tx):aL (gP A k v) x=if x=k then some v else aL A x:=by
 have:=xh (Be h) k v x;rw[HG]at this;exact this
theorem sc{A:List (Tx×V)}(h:(A.map Prod.fst).Nodup)(k:Tx):((dt A k).map Prod.fst).Nodup:=by
 have:=((Be h).del k).key;rw[xn]at this;exact this
theorem uV{A:List (Tx×V)}(h:(A.map Prod.fst).Nodup)(k:Tx)(v:V):((gP A k v).map Prod.fst).Nodup:=by
 have:=((Be h).put k v).key;rw[HG]at this;exact this
theorem oY(A:List (Tx×V))(k:Tx):(dt A k).length<=A.length:=by
 unfold dt;split
 ·exact Z3 _
 ·exact List.length_eraseIdx_le _ _
theorem xB(A:List (Tx×V))(k:Tx)(v:V):(gP A k v).length<=A.length+1:=by
 unfold gP;split
 ·simp
 ·rw[List.length_set];omega
end
theorem zf:∀{L:List Rl} {A:Gr},(A.map Prod.fst).Nodup->((ll A L).map Prod.fst).Nodup/\(ll A L).length<=A.length/\∀d,aL (ll A L) d=if d∈L.map Rl.dst then none else aL A d
 | [],A,h=>⟨h,Z3 _,λd=>by simp[ll]⟩
 |r::L,A,h=>by
  obtain⟨a,b,c⟩:=zf (L:=L) (sc h r.dst);refine⟨a,X9 b (oY _ _),λd=>?_⟩;show aL (ll (dt A r.dst) L) d=_;rw[c,pH h];simp only[q1j,Z4];by_cases q:d∈L.map Rl.dst
  ·simp[q]
  ·by_cases e:d=r.dst<;>simp[q,e]
theorem Kb{x:Gr}(h:(x.map Prod.fst).Nodup)(hd:∀e∈x,e.2.dst=e.1)(k:Tx):((uf x k).map Prod.fst).Nodup/\(uf x k).length<=x.length/\∀d,aL (uf x k) d=match aL x d with
 |some r=>if p5 k r=true then none else some r
 |none=>none:=by
 obtain⟨c,f,g⟩:=zf (L:=pkF x (p5 k)) h;refine⟨c,f,λd=>?_⟩;unfold uf;rw[g];cases e:aL x d with
 |none=>simp
 |some r=>
  have hm:=cR e;have a:r.dst=d:=hd _ hm
  have:d∈(pkF x (p5 k)).map Rl.dst<->p5 k r=true:=by
   rw[q0m];constructor
   ·rintro⟨i,j,l⟩;obtain⟨b,m⟩:=(uT h hd i).1 j;rw[l]at b;have:=eI h b;rw[e]at this;injection this with this;subst this;exact m
   ·intro q;exact⟨r,(uT h hd r).2 ⟨by rw[a];exact hm,q⟩,a⟩
  (try simp only[this])
end Go.Proofs.YtflehenfikoniaaGreat
namespace Go.Proofs.YtflehenfikoniaaGreat
open Go Go.RowKit
def ofX (X:SpV) (k:Tx):List Rl:=ofG (xz X.R) k
def uv (X:SpV):List Rl:=NP (xz X.R)
section
variable {X:SpV} {c:SpC}
theorem bE.QC(h:bE X c):((xz X.R).map Prod.fst).Nodup/\∀k,aL (xz X.R) k=X.R k:=mK h.gk h.R
theorem bE.of(h:bE X c)(k:Tx):ofG c.g k=ofX X k:=Bd h.gk h.QC.1 (λd=>by rw[h.R,h.QC.2]) _
theorem bE.all(h:bE X c):NP c.g=uv X:=Bd h.gk h.QC.1 (λd=>by rw[h.R,h.QC.2]) _
theorem bE.HT(h:bE X c){d:Tx}{r:Rl}(a:X.R d=some r):r.dst=d:=h.dst (d,r) (cR (by rw[h.R];exact a))
theorem bE.tv(h:bE X c){k:Tx}{r:Rl}:r∈ofX X k<->X.R r.dst=some r/\r.src=k:=by
 rw[<-h.of];show r∈pkF c.g _<->_;rw[uT h.gk h.dst,oX h.gk,h.R,decide_eq_true_eq]
theorem bE.HU(h:bE X c){r:Rl}:r∈uv X<->X.R r.dst=some r:=by
 rw[<-h.all];show r∈pkF c.g _<->_;rw[uT h.gk h.dst,oX h.gk,h.R];simp
theorem bE.N4(h:bE X c)(k:Tx):(ofX X k).length<=1000:=by
 rw[<-h.of];have a:=HS c.g λr=>decide (r.src=k)
 have b:=h.gl;have d:=h.n9;show(pkF c.g _).length<=1000;omega
end
section
variable {X:SpV} {r:Rl} {t:Int} {k:Tx}
theorem fq(X:SpV)(k:Tx)(e:fy)(x:Tx):(fJ X k e).K x=if x=k then some e else X.K x:=rfl
theorem iV:(cg X r t).R=X.R/\(cg X r t).n=X.n:=by unfold cg;split<;>exact⟨rfl,rfl⟩
theorem ln(h:k≠r.dst):(cg X r t).K k=X.K k:=by
 unfold cg;split
 ·rw[fq,if_neg h]
 ·rfl
theorem jt:((cg X r t).K k).isSome=(X.K k).isSome:=by
 unfold cg;split
 ·rename_i s d b a;rw[fq];split
  ·rename_i q;rw[q,a];rfl
  ·rfl
 ·rfl
def Bnd(X:SpV)(b:Nat):Prop:=∀k e,X.K k=some e->e.L.length<=b
theorem mL{b:Nat}(h:Bnd X b):Bnd (cg X r t) (b+1):=λk e a=>by
 unfold cg at a;split at a
 ·rename_i s d g f;rw[fq]at a;split at a
  ·injection a with a;subst a;have hb:=h _ _ f;show(gK r t s d).2.length<=b+1;unfold gK;split
   ·exact Nat.le_succ_of_le hb
   ·split
    ·exact X9 (rO _ _ _ _ _) (by omega)
    ·exact X9 (q0y _ _) (by omega)
  ·exact Nat.le_succ_of_le (h k e a)
 ·exact Nat.le_succ_of_le (h k e a)
end
def mxK(X:SpV)(k:Tx):Int:=match X.K k with
 |some e=>e.S.mx
 |none=> -1
def di(k:Tx)(was t:Int)(X:SpV)(r:Rl):SpV:=cg (if 0<=was/\was<mxK X k then cg X r was else X) r t
def Kc(X:SpV)(k:Tx)(e:fy)(t v p:Int):SpV:=fJ X k {e with S:=(fc e.S e.L t v p).1.1,L:=(fc e.S e.L t v p).1.2}
def gW (X:SpV) (k:Tx) (t v p:Int):SpV×Int:=if cX X k≠0 then(X,cX X k)else match X.K k with
 |none=>(X,5)
 |some e=>if(fc e.S e.L t v p).2≠0 then(X,(fc e.S e.L t v p).2)else((ofX X k).foldl (di k e.S.mx t) (Kc X k e t v p),0)
def Links(X:SpV):Prop:=∀d r,X.R d=some r->(X.K r.src).isSome=true/\(X.K d).isSome=true
section
variable {X:SpV} {k:Tx} {was t:Int} {r:Rl}
theorem DO(h:k≠r.dst){b:Nat}(a:Bnd X b):(di k was t X r).R=X.R/\(di k was t X r).n=X.n/\(∀x,((di k was t X r).K x).isSome=(X.K x).isSome)/\(di k was t X r).K k=X.K k/\Bnd (di k was t X r) (b+2):=by
 unfold di;split
 ·exact⟨iV.1.trans iV.1,iV.2.trans iV.2,λx=>jt.trans jt,(ln h).trans (ln h),mL (mL a)⟩
 ·exact⟨iV.1,iV.2,λx=>jt,ln h,λx e c=>Nat.le_succ_of_le (mL a x e c)⟩
theorem ui{k:Tx}{was t:Int}:∀(L:List Rl) {X:SpV} {b:Nat},(∀r∈L,k≠r.dst)->Bnd X b->(L.foldl (di k was t) X).R=X.R/\(L.foldl (di k was t) X).n=X.n/\(∀x,((L.foldl (di k was t) X).K x).isSome=(X.K x).isSome)/\(L.foldl (di k was t) X).K k=X.K k/\Bnd (L.foldl (di k was t) X) (b+2*L.length)
 | [],X,b,_,a=>⟨rfl,rfl,λ_=>rfl,rfl,a⟩
 |r::L,X,b,h,a=>by
  obtain⟨c,d,e,f,g⟩:=DO (k:=k) (was:=was) (t:=t) (h r Y6) a;obtain⟨i,j,l,m,o⟩:=ui L (λq p=>h q (X7 _ p)) g;refine⟨i.trans c,j.trans d,λx=>(l x).trans (e x),m.trans f,?_⟩;rw[Z8,show b+2*(L.length+1)=b+2+2*L.length by omega];exact o
end
theorem mM{r:Rl}(h:cW r=true):r.src≠r.dst:=by
 unfold cW at h;simp only[Z9,q2r,decide_eq_false_iff_not]at h;exact h.2.2.2.1
theorem N5{S S':Sr}{L a:Smp}{t v p e:Int}(h:fc S L t v p=((S',a),e))(b:e≠0):S'=S/\a=L:=by
 unfold fc at h
 repeat' split at h
 all_goals(injection h with h1 h2;injection h1 with c d;first|exact⟨c.symm,d.symm⟩|exact absurd h2.symm b)
def QD:DT:=[(1000005,[]),(4,[(some 1000000,[7,8]),(none,[0,1,2,3,4,5,6,7,8,9]),(none,[0,1,2,3,4,5,6,8,7,9])]),(5,[(some 0,[4]),(some 0,[26]),(some 0,[27]),(some 0,[28]),(some 0,[5]),(some 0,[29,30]),(some 0,[31]),(some 0,[6]),(some 0,[3])])]
def N6:DT:=[(1,[(some 0,[1]),(some 0,[6]),(some 0,[7]),(some 0,[1,8]),(some 0,[2,8]),(some 0,[10,8]),(some 0,[11,8]),(some 0,[12,8]),(some 0,[3,8]),(some 0,[13,14,8]),(some 0,[15,8]),(none,[16,8]),(some 0,[9,17,8])])]
def Wr:FuncId->EP:=bb 73 [] (cf 24 (mJ No) (aq 133 (dO 2 GrB NQ) (aq 75 (iC 5 SpB Ut) (aq 61 (iC 5 SpB QA) (aq 72 HO (aq 100 zd evP))))))
theorem QE:aU Wr:=au (aO (ag (ag (ag (ag (ag az Ba) NX) A8) N3) NR) R6 (A9 _)) (by kernel_rfl) (by kernel_rfl)
def Uu:FuncId->EP:=bb 32 QD (bb 74 N6 Wr)
theorem HV:aU Uu:=au (au QE (by kernel_rfl) (by kernel_rfl)) (by kernel_rfl) (by kernel_rfl)
def adJ (c:SpC) (k:Tx) (t:Int) (v:Int) (q:Int) (was:Int):AE×AH:=(mkE [(3,.si .i64 (q)),(4,.ptr 5 (0)),(5,.ptr 6 (0)),(6,.ptr 7 (0)),(10,.ptr 8 (0))],mkH [(0,.cells [.map 1,aK c.px,aK c.pg] true),(1,c.m.O kT gE),(2,.sep (IxB.Q c.x c.px)),(3,.sep (GrB.Q c.g c.pg)),(4,.sep (aF (aM c.m.A))),(5,.cells [.ptr 0 0] true),(6,.cells [.ss k] true),(7,.cells [.si .i64 t,.si .i64 v] true),(8,.cells ([.si .i64 was]) true)])
theorem HW{c:SpC}{k:Tx}{t:Int}{v:Int}{q:Int}{was:Int}{p n:Nat}{σ:AE}{H:AH}(a:Nat)(J:a≠0/\a≠1/\a≠2/\a≠3/\a≠4/\a≠5/\a≠6/\a≠7)(K:p<=8)(j:mk (aj (pa 3) σ)= .si .i64 (q))(o:aj (pa 4) σ= .ptr 5 (0))(s:aj (pa 5) σ= .ptr 6 (0))(u:aj (pa 6) σ= .ptr 7 (0))(e:aj (pa 10) σ= .ptr a (0))(w:H.get 0=some (.cells [.map 1,aK c.px,aK c.pg] true))(z:H.get 1=some (c.m.O kT gE))(B:H.get 2=some (.sep (IxB.Q c.x c.px)))(C:H.get 3=some (.sep (GrB.Q c.g c.pg)))(D:H.get 4=some (.sep (aF (aM c.m.A))))(E:H.get 5=some (.cells [.ptr 0 0] true))(F:H.get 6=some (.cells [.ss k] true))(G:H.get 7=some (.cells [.si .i64 t,.si .i64 v] true))(I:∃l,H.get a=some (.cells l true)/\mz H 9 (λb=>if b=8 then a else b) l ([.si .i64 was])):Cov p σ H n ((adJ c k t v q was).1,(adJ c k t v q was).2,9):=
 Cov.ofB (λb=>if b=8 then a else b) (by omega) (λb d=>by repeat' rw[if_neg (by omega)]) ⟨.int j,.ptr (by decide) o,.ptr (by decide) s,.ptr (by decide) u,.ptr (by decide) e,trivial⟩ ⟨.inl ⟨_,w,ao.b7 (k:=2) rfl (by decide) (λb d=>by rw[if_neg (by omega)])⟩,.inl ⟨_,z,ao.b7 (k:=0) (bl dQ uh) (by decide) (λb d=>absurd d (q0f b))⟩,.inl ⟨_,B,ao.sep _⟩,.inl ⟨_,C,ao.sep _⟩,.inl ⟨_,D,ao.sep _⟩,.inl ⟨_,E,ao.b7 (k:=1) rfl (by decide) (λb d=>by rw[if_neg (by omega)])⟩,.inl ⟨_,F,ao.b7 (k:=0) rfl (by decide) (λb d=>absurd d (q0f b))⟩,.inl ⟨_,G,ao.b7 (k:=0) rfl (by decide) (λb d=>absurd d (q0f b))⟩,.inl (I.elim λl h=>⟨_,h.1,ao.st h.2⟩),trivial⟩ rfl (λx f y i=>by simp only[Z4,Z5,or_false]at f i;rcases f with rfl|rfl|rfl|rfl|rfl|rfl|rfl|rfl|rfl<;>rcases i with rfl|rfl|rfl|rfl|rfl|rfl|rfl|rfl|rfl<;>simp<;>omega)
def adL (c:SpC) (k:Tx) (t:Int) (v:Int) (was:Int) (L:List Rl) (j:Nat):AE×AH:=(mkE [(2,AV.fn 74 [] [.ptr 8 0,.ptr 5 0,.ptr 6 0,.ptr 7 0]),(13,.fr L.length 5 (ruL L)),(14,.si .i64 ((L.length:Int))),(15,.si .i64 ((j:Int)))],mkH [(0,.cells [.map 1,aK c.px,aK c.pg] true),(1,c.m.O kT gE),(2,.sep (IxB.Q c.x c.px)),(3,.sep (GrB.Q c.g c.pg)),(4,.sep (aF (aM c.m.A))),(5,.cells [.ptr 0 0] true),(6,.cells [.ss k] true),(7,.cells [.si .i64 t,.si .i64 v] true),(8,.cells [.si .i64 was] true)])
theorem uW{c:SpC}{k:Tx}{t:Int}{v:Int}{was:Int}{L:List Rl}{j:Nat}{p n:Nat}{σ:AE}{H:AH}(f:p<=14)(h:ah H 14 (λb=>b) (aj (pa 2) σ) (AV.fn 74 [] [.ptr 8 0,.ptr 5 0,.ptr 6 0,.ptr 7 0]))(a:aj (pa 13) σ= .fr L.length 5 (ruL L))(d:mk (aj (pa 14) σ)= .si .i64 ((L.length:Int)))(e:mk (aj (pa 15) σ)= .si .i64 ((j:Int)))(i:H.get 0=some (.cells [.map 1,aK c.px,aK c.pg] true))(l:H.get 1=some (c.m.O kT gE))(o:H.get 2=some (.sep (IxB.Q c.x c.px)))(q:H.get 3=some (.sep (GrB.Q c.g c.pg)))(s:H.get 4=some (.sep (aF (aM c.m.A))))(u:H.get 5=some (.cells [.ptr 0 0] true))(w:H.get 6=some (.cells [.ss k] true))(y:H.get 7=some (.cells [.si .i64 t,.si .i64 v] true))(z:H.get 8=some (.cells [.si .i64 was] true)):Cov p σ H n ((adL c k t v was L j).1,(adL c k t v was L j).2,14):=
 Cov.ofA f ⟨h,ah.frE a,.int d,.int e,trivial⟩ ⟨.inl ⟨_,i,ao.refl rfl⟩,.inl ⟨_,l,ao.refl (bl dQ uh)⟩,.inl ⟨_,o,ao.sep _⟩,.inl ⟨_,q,ao.sep _⟩,.inl ⟨_,s,ao.sep _⟩,.inl ⟨_,u,ao.refl rfl⟩,.inl ⟨_,w,ao.refl rfl⟩,.inl ⟨_,y,ao.refl rfl⟩,.inl ⟨_,z,ao.refl rfl⟩,trivial⟩ rfl
theorem Ke(X:SpV)(k:Tx)(t v p:Int)(c:SpC)(hc:bE X c)(h64:aN v)(hl:Links X)(hb:Bnd X 20000){Y:SpV×Int}(B:gW X k t v p=Y):ax Uu 6 32 [.ptr 0 0,.ss k,.agg [.si .i64 t,.si .i64 v],.si .i64 p] (mkH (bH (spO c) 0)) 5 (gi SpB Y.1 (.si .i64 Y.2)):=by
 obtain⟨Y1,Y2⟩:=Y
 conv=>whnf
 refine⟨X,[.ss k],X,_,_,c,rfl,by decide,.cons .same .nil,hc,tq rfl rfl rfl rfl rfl,⟨k,rfl,rfl,rfl⟩,λn o=>?_⟩
 conv=>whnf
 refine ae.c6 (λP=>?_) (λP=>?_)
 focus
  unfold gW at B;rw[if_pos P]at B;injection B with e1 e2;subst e1 e2
  conv=>whnf
  exact⟨_,n,.told rfl,o,bK rfl rfl rfl rfl rfl⟩
 have P:cX X k=0:=P;unfold gW at B;rw[if_neg (by rw[P];exact λq=>q rfl)]at B
 have hK:(X.K k).isSome=true:=by
  unfold cX at P;by_cases q:(X.K k).isSome=true
  ·exact q
  ·rw[if_neg q]at P;cases P
 obtain⟨e,he⟩:=q0l.1 hK;rw[he]at B;dsimp only at B;obtain⟨p1,A1,A2,g1,a1,u1,q1⟩:=o.at1 he;have hL:=hb k e he
 conv=>whnf
 refine yl.mk Unit 9 (λ_=>adJ n k t v p e.S.mx) ?_ ?_
 focus
  conv=>whnf
  refine⟨?_,?_,trivial⟩
  focus
   conv=>whnf
   refine Ask.mk _ (aZ (m:=n.m) (g:=gE) (k:=k) bQ nX rfl rfl rfl pM g1) ?_
   conv=>whnf
   refine⟨4,aM A1,aM A2,p1,e.S,e.L,_,rfl,by decide,by decide,rfl,congrArg (λx=>some (AO.sep (aF x))) q1,⟨rfl,rfl⟩,?_⟩
   conv=>whnf
   exact⟨(),HW (c:=n) (k:=k) (t:=t) (v:=v) (q:=p) (was:=e.S.mx) 12 (by decide) (by decide) rfl rfl rfl rfl rfl rfl rfl rfl rfl rfl rfl rfl rfl ⟨_,rfl,.cons (.int rfl) .nil⟩⟩
  focus
   conv=>whnf
   refine Ask.mk _ (aZ (m:=n.m) (g:=gE) (k:=k) bQ nX rfl rfl rfl pM g1) ?_
   conv=>whnf
   refine⟨4,aM A1,aM A2,p1,e.S,e.L,_,rfl,by decide,by decide,rfl,congrArg (λx=>some (AO.sep (aF x))) q1,⟨rfl,rfl⟩,?_⟩
   conv=>whnf
   exact⟨(),HW (c:=n) (k:=k) (t:=t) (v:=v) (q:=p) (was:=e.S.mx) 8 (by decide) (by decide) rfl rfl rfl rfl rfl rfl rfl rfl rfl rfl rfl rfl rfl ⟨_,rfl,.cons (.int rfl) .nil⟩⟩
 intro _;obtain⟨Z,hZ⟩:∃Z,Z=fc e.S e.L t v p:=⟨_,rfl⟩;have hK1:Kc X k e t v p=fJ X k {e with S:=Z.1.1,L:=Z.1.2}:=by rw[hZ];rfl
 rw[hK1,<-hZ]at B;obtain⟨⟨C,D⟩,en⟩:=Z;dsimp only at B hK1
 conv=>whnf
 refine Ask.mk _ (aZ (m:=n.m) (g:=gE) (k:=k) bQ nX rfl rfl rfl pM g1) ?_
 conv=>whnf
 refine⟨4,aM A1,aM A2,p1,e.S,e.L,t,v,p,C,D,en,rfl,by decide,by decide,rfl,congrArg (λx=>some (AO.sep (aF x))) q1,⟨_,_,rfl,rfl,rfl⟩,rfl,h64,by omega,hZ.symm,λho=>?_⟩;obtain⟨k1,k2,k3⟩:=o.xx he g1 a1 u1 ho
 conv=>whnf
 refine ae.c6 (λz2=>?_) (λz2=>?_)
 focus
  rw[if_pos z2]at B;injection B with e1 e2;subst e1 e2
  have hs:fJ X k {e with S:=C,L:=D}=X:=by
   obtain⟨a1,a2⟩:C=e.S/\D=e.L:=N5 hZ.symm z2;rw[a1,a2];exact Bb he
  rw[hs]at k1
  conv=>whnf
  exact⟨_,{n with m:=n.m.put k ⟨p1,C,D,e.z⟩},.told rfl,k1,bK rfl (congrArg some k2.symm) rfl rfl (congrArg (λx=>some (AO.sep (aF x))) k3.symm)⟩
 rw[if_neg (λq=>q z2)]at B;injection B with e1 e2;subst e1 e2;obtain⟨a,J⟩:∃a,a=ofX X k:=⟨_,rfl⟩;have hR1:ofG n.g k=a:=by rw[J];exact o.of k
 rw[<-J]
 have Q:∀r∈a,k≠r.dst/\X.R r.dst=some r/\r.src=k:=λr T=>by
  rw[J]at T;obtain⟨m1,m2⟩:=o.tv.1 T;exact⟨λq=>mM (o.rul _ _ m1) (m2.trans q),m1,m2⟩
 have hlen:a.length<=1000:=by rw[J];exact o.N4 k
 have hgl:n.g.length<=1000:=X9 o.gl o.n9;obtain⟨H,F⟩:∃H,H=fJ X k {e with S:=C,L:=D}:=⟨_,rfl⟩;rw[<-F]at k1;rw[<-F]
 have hB1:Bnd H 20001:=λx y U=>by
  rw[F,fq]at U;split at U
  ·injection U with U;subst U;have:=rO e.S e.L t v p;rw[<-hZ]at this;show D.length<=20001;have h4:D.length<=e.L.length+1:=this;omega
  ·exact X9 (hb x y U) (by decide)
 have hXk:H.K k=some {e with S:=C,L:=D}:=by rw[F,fq,if_pos rfl]
 have hXs:∀x,(H.K x).isSome=(X.K x).isSome:=λx=>by
  rw[F,fq];by_cases q:x=k
  ·subst q;rw[if_pos rfl,he];rfl
  ·rw[if_neg q]
 obtain⟨I,M⟩:∃I:SpC,I={n with m:=n.m.put k ⟨p1,C,D,e.z⟩}:=⟨_,rfl⟩;have k2':n.m.O kT gE=I.m.O kT gE:=by rw[M];exact k2.symm
 have k3':aM A1++cL p1 C D::aM A2=aM I.m.A:=by rw[M];exact k3.symm
 have E:I.px=n.px/\I.pg=n.pg/\I.x=n.x/\I.g=n.g:=by rw[M];exact⟨rfl,rfl,rfl,rfl⟩
 rw[<-M]at k1
 conv=>whnf
 refine⟨3,n.pg,n.g,[.ss k],.fr a.length 5 (ruL a),rfl,by decide,by decide,.cons .same .nil,rfl,rfl,⟨k,rfl,hgl,by rw[hR1]⟩,?_⟩
 conv=>whnf
 refine aR.mk {w:Nat×SpC//w.1<=a.length/\bE ((a.take w.1).foldl (di k e.S.mx t) H) w.2} 14 (λw=>adL w.val.2 k t v e.S.mx a w.val.1) (λw=>a.length-w.val.1) ⟨(0,I),X5 _,k1⟩ ?_ ?_
 focus
  refine uW (c:=I) (k:=k) (t:=t) (v:=v) (was:=e.S.mx) (L:=a) (j:=0) ?_ ?_ ?_ ?_ ?_ ?_ ?_ ?_ ?_ ?_ ?_ ?_ ?_ ?_
  ·exact Z3 14
  ·exact ah.de (k:=14) rfl rfl (Z3 14) (λ_ _=>rfl)
  ·exact rfl
  ·exact rfl
  ·exact rfl
  ·rw[E.1,E.2.1];exact rfl
  ·exact congrArg some k2'
  ·rw[E.1,E.2.2.1];exact rfl
  ·rw[E.2.1,E.2.2.2];exact rfl
  ·exact congrArg (λx=>some (AO.sep (aF x))) k3'
  ·exact rfl
  ·exact rfl
  ·exact rfl
  ·exact rfl
 intro⟨(j,W),hj,u⟩;have hj:j<=a.length:=hj;obtain⟨i,N⟩:∃i,i=(a.take j).foldl (di k e.S.mx t) H:=⟨_,rfl⟩;have u:bE i W:=by rw[N];exact u
 have hw:IntKind.i64.wrap ((j:Int)+1)=((j+1:Nat):Int):=by rw[al (by omega) (by omega)];omega
 obtain⟨f1,f2,f3,f4,f5⟩:=ui (k:=k) (was:=e.S.mx) (t:=t) (a.take j) (X:=H) (b:=20001) (λr T=>(Q r (q2z T)).1) hB1;rw[<-N]at f1 f2 f3 f4 f5;rw[hXk]at f4;have hB3:Bnd i 25000:=λx y U=>X9 (f5 x y U) (by rw[Y7];omega)
 conv=>whnf
 refine ae.dec (λh=>?_) (λh=>?_)
 focus
  have h3:j<a.length:=q0o.1 h;have hlt:a.length-(j+1)<a.length-j:=by omega
  obtain⟨r,T⟩:∃r,r=a[j]:=⟨_,rfl⟩;have sub:bk (ruL a) (j*5) 5=some (ruC r):=by rw[T];exact rY h3 rfl
  obtain⟨m1,m2,m3⟩:=Q r (by rw[T];exact q0b h3)
  have f:(a.take (j+1)).foldl (di k e.S.mx t) H=di k e.S.mx t i r:=by
   rw[X8 h3,q2t,<-N,<-T];rfl
  have s:i.K r.src=some {e with S:=C,L:=D}:=by rw[m3];exact f4
  have hdS:(i.K r.dst).isSome=true:=by rw[f3,hXs];exact(hl _ _ m2).2
  obtain⟨d,hd⟩:=q0l.1 hdS;have hmx:mxK i k=C.mx:=by unfold mxK;rw[f4]
  obtain⟨p3,C1,C2,g3,a3,u3,q3⟩:=u.at1 f4;have lsrc:=hB3 _ _ s;have ldst:=hB3 _ _ hd;have one:¬(0<=e.S.mx/\e.S.mx<mxK i k)->di k e.S.mx t i r=cg i r t:=λq=>by unfold di;rw[if_neg q]
  have two:0<=e.S.mx->e.S.mx<C.mx->di k e.S.mx t i r=cg (cg i r e.S.mx) r t:=λq q2=>by unfold di;rw[if_pos ⟨q,by rw[hmx];exact q2⟩]
  conv=>whnf
  refine Idx.mk j rfl h3 ?_
  conv=>whnf
  refine aw sub ?_
  conv=>whnf
  refine ae.dec (λz3=>?_) (λz3=>?_)
  focus
   conv=>whnf
   refine Ask.mk _ (aZ (m:=W.m) (g:=gE) (k:=k) bQ nX rfl rfl rfl pM g3) ?_
   conv=>whnf
   refine⟨4,aM C1,aM C2,p3,C,D,_,rfl,by decide,by decide,rfl,congrArg (λx=>some (AO.sep (aF x))) q3,⟨rfl,rfl⟩,?_⟩
   conv=>whnf
   refine ae.dec (λz4=>?_) (λz4=>?_)
   focus
    have hs2:(cg i r e.S.mx).K r.src=some {e with S:=C,L:=D}:=by rw[ln (by rw[m3];exact m1)];exact s
    obtain⟨d2,hd2⟩:=q0l.1 (show((cg i r e.S.mx).K r.dst).isSome=true by rw[jt];exact hdS);have ld2:=mL hB3 _ _ hd2;rw[two z3 z4]at f
    conv=>whnf
    refine⟨i,[gR r,.si .i64 e.S.mx],cg i r e.S.mx,.tup [],_,W,rfl,by decide,.cons .same (.cons .same .nil),u,tq rfl rfl rfl rfl rfl,⟨r,e.S.mx,_,d,rfl,s,hd,by omega,by omega,rfl,rfl⟩,λc4 hc4=>?_⟩
    conv=>whnf
    refine⟨cg i r e.S.mx,[gR r,.si .i64 t],cg (cg i r e.S.mx) r t,.tup [],_,c4,rfl,by decide,.cons .same (.cons .same .nil),hc4,tq rfl rfl rfl rfl rfl,⟨r,t,_,d2,rfl,hs2,hd2,by omega,by omega,rfl,rfl⟩,λV G=>?_⟩
    conv=>whnf
    exact⟨⟨(j+1,V),h3,by rw[f];exact G⟩,hlt,uW (c:=V) (k:=k) (t:=t) (v:=v) (was:=e.S.mx) (L:=a) (j:=j+1) (Z3 14) (ah.de (k:=14) rfl rfl (Z3 14) (λ_ _=>rfl)) rfl rfl (congrArg (AV.si .i64) hw) rfl rfl rfl rfl rfl rfl rfl rfl rfl⟩
   rw[one (λq=>z4 (by rw[<-hmx];exact q.2))]at f
   conv=>whnf
   refine⟨i,[gR r,.si .i64 t],cg i r t,.tup [],_,W,rfl,by decide,.cons .same (.cons .same .nil),u,tq rfl rfl rfl rfl rfl,⟨r,t,_,d,rfl,s,hd,by omega,by omega,rfl,rfl⟩,λV G=>?_⟩
   conv=>whnf
   exact⟨⟨(j+1,V),h3,by rw[f];exact G⟩,hlt,uW (c:=V) (k:=k) (t:=t) (v:=v) (was:=e.S.mx) (L:=a) (j:=j+1) (Z3 14) (ah.de (k:=14) rfl rfl (Z3 14) (λ_ _=>rfl)) rfl rfl (congrArg (AV.si .i64) hw) rfl rfl rfl rfl rfl rfl rfl rfl rfl⟩
  rw[one (λq=>z3 q.1)]at f
  conv=>whnf
  refine⟨i,[gR r,.si .i64 t],cg i r t,.tup [],_,W,rfl,by decide,.cons .same (.cons .same .nil),u,tq rfl rfl rfl rfl rfl,⟨r,t,_,d,rfl,s,hd,by omega,by omega,rfl,rfl⟩,λV G=>?_⟩
  conv=>whnf
  exact⟨⟨(j+1,V),h3,by rw[f];exact G⟩,hlt,uW (c:=V) (k:=k) (t:=t) (v:=v) (was:=e.S.mx) (L:=a) (j:=j+1) (Z3 14) (ah.de (k:=14) rfl rfl (Z3 14) (λ_ _=>rfl)) rfl rfl (congrArg (AV.si .i64) hw) rfl rfl rfl rfl rfl rfl rfl rfl rfl⟩
 have ej:j=a.length:=by have h:¬(j:Int)<(a.length:Int):=h;omega
 have hfin:bE (a.foldl (di k e.S.mx t) H) W:=by rw[<-q0e (l:=a),<-ej,<-N];exact u
 conv=>whnf
 exact⟨_,W,.told rfl,hfin,bK rfl rfl rfl rfl rfl⟩
def pJ(X:SpV)(cs:List AV)(a:SpV)(u:AV):Prop:=∃k t v p Y,cs=[.ss k,.agg [.si .i64 t,.si .i64 v],.si .i64 p]/\aN v/\Links X/\Bnd X 20000/\gW X k t v p=Y/\a=Y.1/\u= .si .i64 Y.2
theorem HX:∀X cs a u,pJ X cs a u->cs.all ga=true/\ga u=true/\∀c,SpB.ok X c->ax Uu 6 32 (.ptr 0 0::cs) (mkH (bH (SpB.O c) 0)) 5 (gi SpB a u):=λX cs a u ⟨k,t,v,p,Y,b,d,e,f,g,h,i⟩=>by
 subst b h i;exact⟨rfl,rfl,λc j=>Ke X k t v p c j d e f g⟩
theorem QF:ai 32 (iC 5 SpB pJ):=xm (ay HV 6 _) (by kernel_rfl) SpB rfl (by decide) HX
theorem HY:ai 32 (cM 5 SpB pJ):=gj HV 6 (by kernel_rfl) SpB rfl (by decide) HX
def zg (X:SpV):List Tx:=aH ((xz X.K).map Prod.fst)
theorem bE.Uv{X:SpV}{c:SpC}(h:bE X c):((xz X.K).map Prod.fst).Nodup/\∀k,aL (xz X.K) k=X.K k:=by
 let A:List (Tx×fy):=c.x.A.filterMap λe=>(X.K e.1).map λy=>(e.1,y)
 have j:∀e∈c.x.A,∃y,X.K e.1=some y:=λe l=>by
  have a:=eI h.xk (show(e.1,e.2)∈c.x.A from l);rw[h.I]at a;obtain⟨y,b,_⟩:=Z7.1 a;exact⟨y,b⟩
 have m:A.map Prod.fst=c.x.A.map Prod.fst:=by
  have:∀B:List (Tx×List Lab),(∀e∈B,∃y,X.K e.1=some y)->(B.filterMap λe=>(X.K e.1).map λy=>(e.1,y)).map Prod.fst=B.map Prod.fst:=λB=>by
   induction B with
   |nil=>intro _;rfl
   |cons e B n=>
    intro g;obtain⟨y,b⟩:=g e Y6;rw[List.filterMap_cons,b];simp only[Y8,q1j];rw[n λq d=>g q (X7 _ d)]
  exact this _ j
 have nd:(A.map Prod.fst).Nodup:=by rw[m];exact h.xk
 refine mK nd λk=>?_
 cases e:X.K k with
 |none=>
  cases o:aL A k with
  |none=>rfl
  |some y=>
   obtain⟨q,_,d⟩:=q2k.1 (cR o);obtain⟨z,i,f⟩:=Z7.1 d;injection f with f h3;rw[f,e]at i;cases i
 |some y=>
  have a:=h.I k;rw[e]at a;exact eI nd (q2k.2 ⟨(k,y.lab),cR a,by rw[e];rfl⟩)
theorem bE.keys{X:SpV}{c:SpC}(h:bE X c):aH (c.x.A.map Prod.fst)=zg X:=xA λk=>by
 rw[q0m,q0m];constructor
 ·rintro⟨e,b,rfl⟩;have a:=eI h.xk (show(e.1,e.2)∈c.x.A from b);rw[h.I]at a;obtain⟨y,d,_⟩:=Z7.1 a;exact⟨(e.1,y),cR (by rw[h.Uv.2];exact d),rfl⟩
 ·rintro⟨e,b,rfl⟩;have a:=eI h.Uv.1 (show(e.1,e.2)∈xz X.K from b);rw[h.Uv.2]at a;exact⟨(e.1,e.2.lab),cR (by rw[h.I,a];rfl),rfl⟩
def Ws(X:SpV)(cs:List AV)(v:AV):Prop:=cs=[]/\v= .fr (zg X).length 1 (strs (zg X))
def Uw(X:SpV)(cs:List AV)(v:AV):Prop:=cs=[]/\v= .fr (uv X).length 5 (ruL (uv X))
def XJ:FuncId->EP:=aq 65 (dO 4 IxB Wd) (aq 53 (dO 2 GrB Wi) evP)
theorem HZ:aU XJ:=ag (ag az Qv) NL
theorem N7:ai 25 (dO 5 SpB Ws):=(gj HZ 5 (by kernel_rfl) SpB rfl (by decide) λX cs b v ⟨d,e,f⟩=>by
 subst d e f;refine⟨rfl,rfl,λc a=>?_⟩;have hk:=a.keys;have g:c.x.A.length<=1000:=X9 a.xl a.n9
 conv=>whnf
 refine⟨2,c.px,c.x,[],.fr (zg b).length 1 (strs (zg b)),rfl,by decide,by decide,.nil,rfl,rfl,?_,?_⟩
 ·exact⟨rfl,X9 g (by decide),by rw[hk];rfl⟩
 conv=>whnf
 exact⟨_,c,.same,a,bK rfl rfl rfl rfl rfl⟩).ol
theorem zh:ai 12 (dO 5 SpB Uw):=(gj HZ 5 (by kernel_rfl) SpB rfl (by decide) λX cs b v ⟨d,e,f⟩=>by
 subst d e f;refine⟨rfl,rfl,λc a=>?_⟩;have hk:=a.all;have h:c.g.length<=1000:=X9 a.gl a.n9
 conv=>whnf
 refine⟨3,c.pg,c.g,[],.fr (uv b).length 5 (ruL (uv b)),rfl,by decide,by decide,.nil,rfl,rfl,?_,?_⟩
 ·exact⟨rfl,h,by rw[hk]⟩
 conv=>whnf
 exact⟨_,c,.same,a,bK rfl rfl rfl rfl rfl⟩).ol
def pN(X:SpV)(d:Tx)(r:Option Rl):SpV:={X with R:=λx=>if x=d then r else X.R x}
def tw(X:SpV)(s d:Tx):SpV×Int:=match X.R d with
 |none=>(X,5)
 |some r=>if r.src=s then(pN X d none,0)else(X,5)
def Ux(X:SpV)(cs:List AV)(a:SpV)(v:AV):Prop:=∃s d Y,cs=[.ss s,.ss d]/\tw X s d=Y/\a=Y.1/\v= .si .i64 Y.2
def XK:FuncId->EP:=aq 109 (cM 2 GrB Wl) evP
theorem QG:aU XK:=ag az NU
theorem bE.gr{X:SpV}{c:SpC}(h:bE X c){g:Gr}{R:Tx->Option Rl}(a:(g.map Prod.fst).Nodup)(b:g.length<=X.n)(d:∀k,aL g k=R k)(f:∀e∈g,e.2.dst=e.1)(i:∀k r,R k=some r->cW r=true):bE {X with R:=R} {c with g:=g}:=
 ⟨h.o,h.xk,a,h.n9,h.ml,h.xl,h.xw,b,h.K,h.I,d,f,h.ser,h.key,i⟩
theorem xC:ai 49 (cM 5 SpB Ux):=gj QG 5 (by kernel_rfl) SpB rfl (by decide) λX cs m v ⟨s,d,Y,i,b,j,k⟩=>by
 subst i j k;refine⟨rfl,rfl,λc a=>?_⟩;have f:=a.R d;unfold tw at b;cases hd:X.R d with
 |none=>
  rw[hd]at f b;have e:p6 c.g s d=(c.g,.tup [.agg [.str [],.str [],.int .i64 0,.int .i64 0,.int .i64 0],.si .i64 5]):=by unfold p6;rw[f]
  subst b
  conv=>whnf
  refine⟨3,c.pg,c.g,[.ss s,.ss d],_,_,_,rfl,by decide,by decide,.cons .same (.cons .same .nil),rfl,rfl,⟨s,d,_,rfl,e,rfl,rfl⟩,?_⟩
  conv=>whnf
  exact⟨_,c,.told rfl,a,bK rfl rfl rfl rfl rfl⟩
 |some r=>
  rw[hd]at f b;dsimp only at b;by_cases q:r.src=s
  ·have e:p6 c.g s d=(dt c.g d,.tup [gR r,.si .i64 0]):=by unfold p6;rw[f];exact if_pos q
   rw[if_pos q]at b;subst b
   have ok:bE (pN X d none) {c with g:=dt c.g d}:=a.gr (sc a.gk d) (X9 (oY _ _) a.gl) (λx=>by rw[pH a.gk,a.R]) (λe l=>a.dst e (rZ l)) (λx y h=>by
    by_cases q:x=d
    ·rw[if_pos q]at h;cases h
    ·rw[if_neg q]at h;exact a.rul x y h)
   conv=>whnf
   refine⟨3,c.pg,c.g,[.ss s,.ss d],_,_,_,rfl,by decide,by decide,.cons .same (.cons .same .nil),rfl,rfl,⟨s,d,_,rfl,e,rfl,rfl⟩,?_⟩
   conv=>whnf
   exact⟨_,{c with g:=dt c.g d},.told rfl,ok,bK rfl rfl rfl rfl rfl⟩
  ·have e:p6 c.g s d=(c.g,.tup [.agg [.str [],.str [],.int .i64 0,.int .i64 0,.int .i64 0],.si .i64 5]):=by unfold p6;rw[f];exact if_neg q
   rw[if_neg q]at b;subst b
   conv=>whnf
   refine⟨3,c.pg,c.g,[.ss s,.ss d],_,_,_,rfl,by decide,by decide,.cons .same (.cons .same .nil),rfl,rfl,⟨s,d,_,rfl,e,rfl,rfl⟩,?_⟩
   conv=>whnf
   exact⟨_,c,.told rfl,a,bK rfl rfl rfl rfl rfl⟩
section
variable {φ:Ph} {H:AH} {n:Nat} {h0 h:Hp} {b m:Nat} {Q Q' R:HP}
theorem HR.shrink(a:HR φ H n h0 h)(w:H.get b=some (.sep Q))(d:∀z X h,Q.P z X h->∃Y:Nat->Prop,(∀B,Y B->X B)/\Q'.P z Y h):∃ψ,PLe φ ψ/\HR ψ (H.set (some (.sep Q')) aa b) n h0 h:=by
 obtain⟨Y,U,V⟩:=d _ _ _ (a.sep b _ w).1;have s4:=(a.sep b _ w).2;have l:=a.nu w
 let ψ:Ph:=⟨φ.f,φ.z,φ.y,λx=>if x=b then Y else φ.s x⟩
 have sb:ψ.s b=Y:=if_pos rfl
 have N:∀x,x≠b->ψ.s x=φ.s x:=λx p=>if_neg p
 have cs:∀x o,(H.set (some (.sep Q')) aa b).get x=some o->(x=b/\o= .sep Q')∨(x≠b/\H.get x=some o):=λx o c=>by
  rcases PM.ak aa H b x o c with⟨p,i⟩|i
  ·injection i with i;exact .inl ⟨p,i.symm⟩
  ·exact .inr i
 have own:∀x o q,(H.set (some (.sep Q')) aa b).get x=some o->φ x=some q->H.get x=some o:=λx o q c d=>by
  rcases cs x o c with⟨rfl,_⟩|⟨_,C⟩
  ·rw[l]at d;cases d
  ·exact C
 have sle:SLe φ ψ:=⟨λ_ _ h=>h,λ_ h=>h⟩
 have up:∀{x B},ψ.s x B->φ.s x B:=λ{x B} k=>by
  by_cases q:x=b
  ·subst q;rw[sb]at k;exact U B k
  ·rw[N x q]at k;exact k
 refine⟨ψ,⟨λ_ _ h=>h,λ_ h=>h,λ_ h=>h⟩,⟨a.dom,λx o c=>?_,λx y o r q O c j ho D d t e=>a.inj x y o r q O (own x o q c d) (own y r O j t) ho D d t e,a.base,a.size,λq d=>⟨⟨FzR.mono (φ:=φ) (ψ:=ψ) sle.z (a.frz q d).1.1,(a.frz q d).1.2⟩,λx o px c ho u=>(a.frz q d).2 x o px (own x o px c u) ho u⟩,λx A c=>?_⟩⟩
 ·rcases cs x o c with⟨rfl,rfl⟩|⟨_,W⟩
  ·exact .inl ⟨l,rfl⟩
  ·rcases a.live x o W with g|⟨q,Z,E,F,G,I⟩
   ·exact .inl g
   ·exact .inr ⟨q,Z,E,F,G,I.cY sle⟩
 ·have v:∀{y A},(H.set (some (.sep Q')) aa b).get y=some (.sep A)->∃J,H.get y=some (.sep J):=λ{y A} j=>by
   rcases cs y _ j with⟨rfl,_⟩|⟨_,C⟩
   ·exact⟨_,w⟩
   ·exact⟨_,C⟩
  refine⟨?_,λB k=>?_⟩
  ·rcases cs x _ c with⟨rfl,i⟩|⟨p,i⟩
   ·injection i with i;subst i;rw[sb];exact V
   ·rw[N x p];exact(a.sep x A i).1
  ·obtain⟨J,K⟩:=v c;obtain⟨E,F,G,I⟩:=(a.sep x J K).2 B (up k)
   exact⟨E,λy r S j ho T=>F y r S (own y r S j T) ho T,G,λy Q4 j L hs=>by
    obtain⟨Q5,M⟩:=v j;exact I y Q5 M L (up hs)⟩
theorem Kf(A C:List HP){z:Fz->Prop}{X:Nat->Prop}{h:Hp}(a:(aF (A++Q::C)).P z X h):∃Y:Nat->Prop,(∀B,Y B->X B)/\(aF (A++C)).P z Y h:=by
 obtain⟨Y,Z,c,f,g,d⟩:=tf A a;exact⟨Z,λB e=>(c B).2 (.inr e),d⟩
theorem Re.XL{A C:List HP}{u v:AV}(c:H.get b=some (.sep (aF (A++Q::C))))(e:mkT u=mkT v):Re H n u (H.set (some (.sep (aF (A++C)))) aa b) v:=λφ h0 h w d f=>by
 obtain⟨g,l,a⟩:=d.shrink c λz X h=>Kf A C
 exact⟨g,l,a,VR.mono l _ _ (Hu (e▸f.mkT))⟩
theorem HR.N8(i:HR φ H n h0 h)(a:b<1000000)(c:b≠m){A C:List HP}(j:H.get b=some (.sep (aF (A++C))))(k:H.get m=some (.sep Q)):∃ψ,PLe φ ψ/\HR ψ ((H.set none aa m).set (some (.sep (aF (A++Q::C)))) aa b) n h0 h:=by
 obtain⟨ψ,l,d⟩:=i.join c j k;have e:=d.tV (Q':=aF (A++Q::C)) (PM.geq a) λ_ _ _=>xb A
 refine⟨ψ,l,e.less λx o p=>?_⟩;rcases PM.ak aa _ b x o p with⟨rfl,f⟩|⟨g,f⟩
 ·rw[PM.geq a];exact f
 ·exact PM.gne a g (PM.gne a g f)
theorem Re.N8{A C:List HP}{u v:AV}(a:b<1000000)(c:b≠m)(f:H.get b=some (.sep (aF (A++C))))(g:H.get m=some (.sep Q))(e:mkT u=mkT v):Re H n u ((H.set none aa m).set (some (.sep (aF (A++Q::C)))) aa b) v:=λφ h0 h w i j=>by
 obtain⟨k,l,d⟩:=i.N8 a c f g;exact⟨k,l,d,VR.mono l _ _ (Hu (e▸j.mkT))⟩
end
def kz(X:SpV)(k:Tx):SpV:=if(X.K k).isSome=true then{X with K:=λx=>if x=k then none else X.K x,R:=λd=>match X.R d with
 |some r=>if p5 k r=true then none else some r
 |none=>none}else X
def QH(X:SpV)(cs:List AV)(a:SpV)(v:AV):Prop:=∃k,cs=[.ss k]/\a=kz X k/\v= .sb (X.K k).isSome
def Uy:FuncId->EP:=aq 68 (cM 4 IxB Qp) (aq 69 (cM 2 GrB Wj) evP)
theorem QI:aU Uy:=ag (ag az NS) NJ
theorem bE.drop{X:SpV}{c:SpC}(h:bE X c){k:Tx}(i:(X.K k).isSome=true):bE (kz X k) {c with m:=c.m.del k,x:=⟨dt c.x.A k,c.x.w⟩,g:=uf c.g k}:=by
 obtain⟨j,l,p⟩:=Kb h.gk h.dst k;unfold kz;rw[if_pos i];refine⟨h.o.del k,sc h.xk k,j,h.n9,?_,X9 (oY _ _) h.xl,h.xw,X9 l h.gl,λx=>?_,λx=>?_,λd=>?_,λe a=>h.dst e (tp a),λx e a=>?_,λx e a=>?_,λd r f=>?_⟩
 ·rw[xn];exact X9 (oY _ _) h.ml
 ·rw[DC h.o];by_cases q:x=k
  ·simp[q]
  ·simp[q,h.K x]
 ·rw[pH h.xk];by_cases q:x=k
  ·simp[q]
  ·simp[q,h.I x]
 ·rw[p,h.R]<;>rfl
 ·dsimp only at a;by_cases q:x=k
  ·rw[if_pos q]at a;cases a
  ·rw[if_neg q]at a;exact h.ser x e a
 ·dsimp only at a;by_cases q:x=k
  ·rw[if_pos q]at a;cases a
  ·rw[if_neg q]at a;exact h.key x e a
 ·dsimp only at f;split at f
  ·rename_i s t;split at f
   ·cases f
   ·injection f with f;subst f;exact h.rul d s t
  ·cases f
theorem bE.XM{X:SpV}{c:SpC}(h:bE X c){k:Tx}{E:SE}{a f:List (Tx×SE)}(g:c.m.A=a++(k,E)::f):(c.m.del k).A=a++f:=by
 have j:∀e∈a,k≠e.1:=λe d q=>by
  have:=h.o.key;rw[g,q0k,q1j,q3l]at this;exact this.2.2 e.1 (q0m.2 ⟨e,d,rfl⟩) k Y6 q.symm
 have l:∀(a:List (Tx×SE)) (i:Nat),(∀e∈a,k≠e.1)->gy k (a++(k,E)::f) i=some (i+a.length,E):=λa=>by
  induction a with
  |nil=>intro i _;simp[gy]
  |cons e a p=>
   intro i d;rw[q1s];unfold gy;rw[if_neg (d e Y6),p (i+1) λx r=>d x (X7 _ r)];simp only[Z8];congr 2;omega
 rw[xn,g];unfold dt;rw[l a 0 j];dsimp only;rw[q0s,List.eraseIdx_append_of_length_le (Z3 _),Nat.sub_self];rfl
theorem FN(X:SpV)(k:Tx)(c:SpC)(a:bE X c):ax Uy 5 27 [.ptr 0 0,.ss k] (mkH (bH (spO c) 0)) 5 (gi SpB (kz X k) (.sb (X.K k).isSome)):=by
 have d:=a.has k;have j:c.x.w<900000:=by have:=a.xw;have:=a.n9;omega
 have p:c.g.length<=1000:=X9 a.gl a.n9;cases f:X.K k with
 |none=>
  rw[f]at d;have e:kz X k=X:=by unfold kz;rw[f];rfl
  have r:aL c.x.A k=none:=by cases q:aL c.x.A k with
   |none=>rfl
   |some y=>rw[q]at d;cases d
  have s:(⟨dt c.x.A k,c.x.w⟩:Ix)=c.x:=by rw[tm r]
  rw[e]
  conv=>whnf
  refine⟨2,c.px,c.x,[.ss k],c.x,.sb false,_,rfl,by decide,by decide,.cons .same .nil,rfl,rfl,⟨k,rfl,j,s.symm,congrArg AV.sb d.symm⟩,?_⟩
  conv=>whnf
  refine ae.nsb (λz=>?_) (λz=>?_)
  focus
   conv=>whnf
   exact⟨_,c,.told rfl,a,bK rfl rfl rfl rfl rfl⟩
  cases z
 |some y=>
  rw[f]at d;obtain⟨v,l,o,B,t,D,u⟩:=a.at1 f;have ok:=a.drop (k:=k) (by rw[f];rfl);have i:aM (c.m.del k).A=aM l++aM o:=by rw[a.XM t];unfold aM;rw[q0k]
  conv=>whnf
  refine⟨2,c.px,c.x,[.ss k],⟨dt c.x.A k,c.x.w⟩,.sb true,_,rfl,by decide,by decide,.cons .same .nil,rfl,rfl,⟨k,rfl,j,rfl,congrArg AV.sb d.symm⟩,?_⟩
  conv=>whnf
  refine ae.nsb (λz=>?_) (λz=>?_)
  focus
   cases z
  conv=>whnf
  refine Ask.mk _ (tk (m:=c.m) (g:=gE) (k:=k) bQ nX rfl rfl rfl) ?_
  conv=>whnf
  refine⟨3,c.pg,c.g,[.ss k],uf c.g k,_,_,rfl,by decide,by decide,.cons .same .nil,rfl,rfl,⟨k,rfl,p,rfl,rfl⟩,?_⟩
  conv=>whnf
  exact⟨_,{c with m:=c.m.del k,x:=⟨dt c.x.A k,c.x.w⟩,g:=uf c.g k},.XL (b:=4) (A:=aM l) (C:=aM o) (congrArg (λx=>some (AO.sep (aF x))) u) rfl,ok,bK rfl rfl rfl rfl (congrArg (λx=>some (AO.sep (aF x))) i.symm)⟩
theorem XN:∀X cs a v,QH X cs a v->cs.all ga=true/\ga v=true/\∀c,SpB.ok X c->ax Uy 5 27 (.ptr 0 0::cs) (mkH (bH (SpB.O c) 0)) 5 (gi SpB a v):=λX cs a v ⟨k,d,e,f⟩=>by
 subst d e f;exact⟨rfl,rfl,λc g=>FN X k c g⟩
theorem DP:ai 27 (cM 5 SpB QH):=gj QI 5 (by kernel_rfl) SpB rfl (by decide) XN
def crK(X:SpV)(k:Tx)(y:fy):SpV:={X with K:=λx=>if x=k then some y else X.K x,n:=X.n+1}
def crF (X:SpV) (k:Tx) (z ret pol:Int) (l:List Lab):SpV×Int:=match pK z ret pol with
 |none=>(X,1)
 |some S=>if(iE k&&dS l)=true then(if(X.K k).isSome=true then(X,6)else(crK X k ⟨S,[],z,cq l⟩,0))else(X,1)
def FO(z ret pol:Int)(l:List Lab):AV:= .agg [.si .i64 z,.si .i64 ret,.si .i64 pol,gL l]
def QJ(X:SpV)(cs:List AV)(a:SpV)(v:AV):Prop:=∃k z ret pol l Y,cs=[.ss k,FO z ret pol l]/\l.length<=1000/\X.n<1000/\crF X k z ret pol l=Y/\a=Y.1/\v= .si .i64 Y.2
def QK:FuncId->EP:=bb 46 [] (aq 104 AT (aq 84 (dO 4 IxB J1) (aq 107 (cM 4 IxB Wc) (aq 105 (cQ Dy) (aq 106 (cQ T7) (aq 108 NY evP))))))
theorem H5:aU QK:=au (ag (ag (ag (ag (ag (ag az Uq) V8) HA) Qs) rW) TU) (by kernel_rfl) (by kernel_rfl)
theorem Kg{m:MpC Tx SE}{k:Tx}(h:aL m.A k=none)(E:SE):(m.put k E).A=m.A++ [(k,E)]:=by
 unfold aL at h;rw[Option.map_eq_none_iff]at h;unfold MpC.put;rw[h]
theorem QL{V:Type}{A:List (Tx×V)}{k:Tx}{q:Bool}(h:(aL A k).isSome=q)(a:q=false):aL A k=none:=by
 cases e:aL A k with
 |none=>rfl
 |some y=>rw[e,a]at h;cases h
theorem bE.create{X:SpV}{c:SpC}(h:bE X c){k:Tx}(e:X.K k=none)(hn:X.n<1000){p:Nat×Nat}{S:Sr}{z:Int}{l:List Lab}(ho:iz S [])(b:iE k=true)(i:dS l=true):bE (crK X k ⟨S,[],z,cq l⟩) {c with m:=c.m.put k ⟨p,S,[],z⟩,x:=⟨gP (dt c.x.A k) k (cq l),c.x.w+8⟩}/\aM (c.m.put k ⟨p,S,[],z⟩).A=aM c.m.A++ [cL p S []]:=by
 have j:aL c.x.A k=none:=QL (h.has k) (by rw[e];rfl);have f:=Kg (h.no1 e) ⟨p,S,[],z⟩;have d:dt c.x.A k=c.x.A:=tm j;have r:=h.ml;have s:=h.xl;have t:=h.xw;have u:=h.gl;refine⟨⟨h.o.put k _,?_,h.gk,?_,?_,?_,?_,?_,λx=>?_,λx=>?_,h.R,h.dst,λx y a=>?_,λx y a=>?_,h.rul⟩,?_⟩
 ·show((gP (dt c.x.A k) k (cq l)).map Prod.fst).Nodup;rw[d];exact uV h.xk _ _
 ·show X.n+1<=1000;omega
 ·show(c.m.put k _).A.length<=X.n+1;rw[f,Z6];show _+1<=_;omega
 ·show(gP (dt c.x.A k) k (cq l)).length<=X.n+1;rw[d];have:=xB c.x.A k (cq l);omega
 ·show c.x.w+8<=8*(X.n+1);omega
 ·show c.g.length<=X.n+1;omega
 ·show(aL (c.m.put k _).A x).map J8=((crK X k ⟨S,[],z,cq l⟩).K x).map FL;rw[xh h.o];by_cases q:x=k
  ·subst q;simp[crK,J8,FL]
  ·simp[crK,q,h.K x]
 ·show aL (gP (dt c.x.A k) k (cq l)) x=((crK X k ⟨S,[],z,cq l⟩).K x).map fy.lab;rw[d,pI h.xk];by_cases q:x=k
  ·subst q;simp[crK]
  ·simp[crK,q,h.I x]
 ·simp only[crK]at a;by_cases q:x=k
  ·rw[if_pos q]at a;injection a with a;subst a;exact ho
  ·rw[if_neg q]at a;exact h.ser x y a
 ·simp only[crK]at a;by_cases q:x=k
  ·subst q;exact b
  ·rw[if_neg q]at a;exact h.key x y a
 ·rw[f];unfold aM;rw[q0k];rfl
theorem Bf(X:SpV)(k:Tx)(z ret pol:Int)(l:List Lab)(c:SpC)(d:bE X c)(s:l.length<=1000)(hn:X.n<1000){Y:SpV×Int}(a:crF X k z ret pol l=Y):ax QK 5 46 [.ptr 0 0,.ss k,FO z ret pol l] (mkH (bH (spO c) 0)) 5 (gi SpB Y.1 (.si .i64 Y.2)):=by
 obtain⟨t,B⟩:=Y;have D:=d.has k;have E:c.x.w<800000:=by have:=d.xw;have:=d.n9;omega
 unfold crF at a
 have no:∀u H n,(X,(1:Int))=(t,B)->u=AV.int .i64 1->H.get 0=some (.cells [.map 1,aK c.px,aK c.pg] true)->H.get 1=some (c.m.O kT gE)->H.get 2=some (.sep (IxB.Q c.x c.px))->H.get 3=some (.sep (GrB.Q c.g c.pg))->H.get 4=some (.sep (aF (aM c.m.A)))->gi SpB t (.si .i64 B) u H n:=λu H n e f F G I J L=>by
  injection e with e3 e4;subst f e3 e4;exact⟨_,c,.told rfl,d,bK F G I J L⟩
 cases o:pK z ret pol with
 |none=>
  rw[o]at a
  conv=>whnf
  refine⟨z,ret,pol,none,rfl,rfl,rfl,⟨by decide,rfl,rfl,rfl,rfl⟩,o,?_⟩
  conv=>whnf
  exact no _ _ _ a rfl rfl rfl rfl rfl rfl
 |some S=>
  rw[o]at a;dsimp only at a
  conv=>whnf
  refine⟨z,ret,pol,some S,rfl,rfl,rfl,⟨by decide,rfl,rfl,rfl,rfl⟩,o,λp ho=>?_⟩
  conv=>whnf
  refine⟨_,_,_,.cons .same .nil,⟨k,rfl,rfl⟩,?_⟩
  conv=>whnf
  refine ae.nsb (λh=>?_) (λh=>?_)
  focus
   rw[if_neg (by rw[h];simp)]at a
   conv=>whnf
   exact no _ _ _ a rfl rfl rfl rfl rfl rfl
  conv=>whnf
  refine⟨_,_,_,.cons .same .nil,⟨l,rfl,s,rfl⟩,?_⟩
  conv=>whnf
  refine ae.nsb (λz2=>?_) (λz2=>?_)
  focus
   rw[if_neg (by rw[z2];simp)]at a
   conv=>whnf
   exact no _ _ _ a rfl rfl rfl rfl rfl rfl
  rw[if_pos (by rw[h,z2];rfl)]at a
  conv=>whnf
  refine⟨2,c.px,c.x,[.ss k],.sb (X.K k).isSome,rfl,by decide,by decide,.cons .same .nil,rfl,rfl,⟨k,rfl,congrArg AV.sb D.symm⟩,?_⟩
  conv=>whnf
  refine ae.sb (λi=>?_) (λi=>?_)
  focus
   rw[if_pos i]at a;injection a with e f;subst e f
   conv=>whnf
   exact⟨_,c,.told rfl,d,bK rfl rfl rfl rfl rfl⟩
  rw[if_neg (by rw[i];simp)]at a;injection a with e f;subst e f
  have M:X.K k=none:=by cases q:X.K k with
   |none=>rfl
   |some y=>rw[q]at i;cases i
  obtain⟨ok,r⟩:=d.create (p:=p) (z:=z) M hn ho h z2;have j:oW c.x k l=(⟨gP (dt c.x.A k) k (cq l),c.x.w+8⟩,.si .i64 0):=by unfold oW;rw[if_pos (by rw[h,z2];rfl)]
  conv=>whnf
  refine Ask.mk _ (xj (m:=c.m) (g:=gE) (v:=⟨p,S,[],z⟩) (k:=k) bQ nX rfl rfl rfl rfl) ?_
  conv=>whnf
  refine⟨2,c.px,c.x,[.ss k,gL l],_,_,_,rfl,by decide,by decide,.cons .same (.cons .same .nil),rfl,rfl,⟨k,l,_,rfl,s,E,j,rfl,rfl,rfl⟩,?_⟩
  conv=>whnf
  exact⟨_,{c with m:=c.m.put k ⟨p,S,[],z⟩,x:=⟨gP (dt c.x.A k) k (cq l),c.x.w+8⟩},.N8 (b:=4) (m:=6) (A:=aM c.m.A) (C:=[]) (by decide) (by decide) (congrArg (λx=>some (AO.sep (aF x))) (q0w _).symm) rfl rfl,ok,bK rfl rfl rfl rfl (congrArg (λx=>some (AO.sep (aF x))) r.symm)⟩
theorem XO:∀X cs a v,QJ X cs a v->cs.all ga=true/\ga v=true/\∀c,SpB.ok X c->ax QK 5 46 (.ptr 0 0::cs) (mkH (bH (SpB.O c) 0)) 5 (gi SpB a v):=λX cs a v ⟨k,z,ret,pol,l,Y,b,d,e,f,g,h⟩=>by
 subst b g h;exact⟨rfl,rfl,λc i=>Bf X k z ret pol l c i d e f⟩
theorem xD:ai 46 (cM 5 SpB QJ):=gj H5 5 (by kernel_rfl) SpB rfl (by decide) XO
def uw (X:SpV) (k:Tx) (ret pol:Int) (l:List Lab):SpV×Int:=match X.K k with
 |none=>(X,5)
 |some e=>if dS l=true then(if(jP e.S e.L ret pol).2≠0 then(X,(jP e.S e.L ret pol).2)else(crK X k ⟨(jP e.S e.L ret pol).1.1,(jP e.S e.L ret pol).1.2,e.z,cq l⟩,0))else(X,1)
def Wt(X:SpV)(cs:List AV)(a:SpV)(v:AV):Prop:=∃k ret pol l Y,cs=[.ss k,.si .i64 ret,.si .i64 pol,gL l]/\l.length<=1000/\X.n<1000/\Bnd X 40000/\uw X k ret pol l=Y/\a=Y.1/\v= .si .i64 Y.2
theorem N9{S S':Sr}{L a:Smp}{r p e:Int}(h:jP S L r p=((S',a),e))(b:e≠0):S'=S/\a=L:=by
 unfold jP at h;split at h
 all_goals(injection h with h1 h2;injection h1 with c d;first|exact⟨c.symm,d.symm⟩|exact absurd h2.symm b)
theorem Oa(X:SpV)(k:Tx)(e y:fy):crK (fJ X k e) k y=crK X k y:=by
 unfold crK fJ;congr 1;funext x;dsimp only;split<;>rfl
theorem bE.Wu{X:SpV}{c:SpC}(h:bE X c){k:Tx}{e:fy}(b:X.K k=some e)(hn:X.n<1000){l:List Lab}:bE (crK X k {e with lab:=cq l}) {c with x:=⟨gP (dt c.x.A k) k (cq l),c.x.w+8⟩}:=by
 have d:=h.ml;have f:=h.xl;have i:=h.xw;have j:=h.gl;have p:=oY c.x.A k;refine⟨h.o,?_,h.gk,?_,?_,?_,?_,?_,λx=>?_,λx=>?_,h.R,h.dst,λx y a=>?_,λx y a=>?_,h.rul⟩
 ·exact uV (sc h.xk k) _ _
 ·show X.n+1<=1000;omega
 ·show c.m.A.length<=X.n+1;omega
 ·show(gP (dt c.x.A k) k (cq l)).length<=X.n+1;have:=xB (dt c.x.A k) k (cq l);omega
 ·show c.x.w+8<=8*(X.n+1);omega
 ·show c.g.length<=X.n+1;omega
 ·show(aL c.m.A x).map J8=((crK X k {e with lab:=cq l}).K x).map FL;rw[h.K];by_cases q:x=k
  ·subst q;simp[crK,b,FL]
  ·simp[crK,q]
 ·show aL (gP (dt c.x.A k) k (cq l)) x=((crK X k {e with lab:=cq l}).K x).map fy.lab;rw[pI (sc h.xk k),pH h.xk];by_cases q:x=k
  ·subst q;simp[crK]
  ·simp[crK,q,h.I x]
 ·simp only[crK]at a;by_cases q:x=k
  ·rw[if_pos q]at a;injection a with a;subst a;exact h.ser k e b
  ·rw[if_neg q]at a;exact h.ser x y a
 ·simp only[crK]at a;by_cases q:x=k
  ·subst q;exact h.key x e b
  ·rw[if_neg q]at a;exact h.key x y a
theorem DQ(X:SpV)(k:Tx)(ret pol:Int)(l:List Lab)(c:SpC)(b:bE X c)(u:l.length<=1000)(hn:X.n<1000)(C:Bnd X 40000){Y:SpV×Int}(a:uw X k ret pol l=Y):ax QK 5 47 [.ptr 0 0,.ss k,.si .i64 ret,.si .i64 pol,gL l] (mkH (bH (spO c) 0)) 5 (gi SpB Y.1 (.si .i64 Y.2)):=by
 obtain⟨D,P⟩:=Y;have j:=b.has k;have E:c.x.w<800000:=by have:=b.xw;have:=b.n9;omega
 unfold uw at a;cases d:X.K k with
 |none=>
  rw[d]at j a;injection a with e1 e2;subst e1 e2
  conv=>whnf
  refine⟨2,c.px,c.x,[.ss k],.sb false,rfl,by decide,by decide,.cons .same .nil,rfl,rfl,⟨k,rfl,congrArg AV.sb j.symm⟩,?_⟩
  conv=>whnf
  refine ae.nsb (λz=>?_) (λz=>?_)
  focus
   conv=>whnf
   exact⟨_,c,.told rfl,b,bK rfl rfl rfl rfl rfl⟩
  cases z
 |some e=>
  rw[d]at j a;dsimp only at a;obtain⟨o,F,G,v,r,H,I⟩:=b.at1 d;have J:=C k e d
  conv=>whnf
  refine⟨2,c.px,c.x,[.ss k],.sb true,rfl,by decide,by decide,.cons .same .nil,rfl,rfl,⟨k,rfl,congrArg AV.sb j.symm⟩,?_⟩
  conv=>whnf
  refine ae.nsb (λz=>?_) (λz=>?_)
  focus
   cases z
  conv=>whnf
  refine⟨_,_,_,.cons .same .nil,⟨l,rfl,u,rfl⟩,?_⟩
  conv=>whnf
  refine ae.nsb (λz2=>?_) (λz2=>?_)
  focus
   rw[if_neg (by rw[z2];simp)]at a;injection a with e1 e2;subst e1 e2
   conv=>whnf
   exact⟨_,c,.told rfl,b,bK rfl rfl rfl rfl rfl⟩
  rw[if_pos z2]at a;obtain⟨Z,s⟩:∃Z,Z=jP e.S e.L ret pol:=⟨_,rfl⟩;rw[<-s]at a;obtain⟨⟨f,h⟩,M⟩:=Z;dsimp only at a
  conv=>whnf
  refine Ask.mk _ (aZ (m:=c.m) (g:=gE) (k:=k) bQ nX rfl rfl rfl pM v) ?_
  conv=>whnf
  refine⟨4,aM F,aM G,o,e.S,e.L,ret,pol,f,h,M,rfl,by decide,by decide,rfl,congrArg (λx=>some (AO.sep (aF x))) I,rfl,rfl,J,s.symm,λho=>?_⟩;obtain⟨t,y,B⟩:=b.xx d v r H ho
  conv=>whnf
  refine ae.c6 (λp=>?_) (λp=>?_)
  focus
   rw[if_pos p]at a;injection a with e1 e2;subst e1 e2
   have N:fJ X k {e with S:=f,L:=h}=X:=by
    obtain⟨r,O⟩:f=e.S/\h=e.L:=N9 s.symm p;rw[r,O];exact Bb d
   rw[N]at t
   conv=>whnf
   exact⟨_,{c with m:=c.m.put k ⟨o,f,h,e.z⟩},.told rfl,t,bK rfl (congrArg some y.symm) rfl rfl (congrArg (λx=>some (AO.sep (aF x))) B.symm)⟩
  rw[if_neg (λq=>q p)]at a;injection a with e1 e2;have ok:=t.Wu (k:=k) (e:={e with S:=f,L:=h}) (by rw[fq,if_pos rfl]) hn (l:=l);rw[Oa]at ok;have ok:bE D {c with m:=c.m.put k ⟨o,f,h,e.z⟩,x:=⟨gP (dt c.x.A k) k (cq l),c.x.w+8⟩}:=by rw[<-e1];exact ok
  subst e2;have i:oW c.x k l=(⟨gP (dt c.x.A k) k (cq l),c.x.w+8⟩,.si .i64 0):=by unfold oW;rw[if_pos (by rw[b.key _ _ d,z2];rfl)]
  conv=>whnf
  refine⟨2,c.px,c.x,[.ss k,gL l],_,_,_,rfl,by decide,by decide,.cons .same (.cons .same .nil),rfl,rfl,⟨k,l,_,rfl,u,E,i,rfl,rfl,rfl⟩,?_⟩
  conv=>whnf
  exact⟨_,{c with m:=c.m.put k ⟨o,f,h,e.z⟩,x:=⟨gP (dt c.x.A k) k (cq l),c.x.w+8⟩},.told rfl,ok,bK rfl (congrArg some y.symm) rfl rfl (congrArg (λx=>some (AO.sep (aF x))) B.symm)⟩
theorem Kh:ai 47 (cM 5 SpB Wt):=gj H5 5 (by kernel_rfl) SpB rfl (by decide) λX cs j v ⟨k,ret,pol,l,Y,a,b,d,e,f,g,h⟩=>by
 subst a g h;exact⟨rfl,rfl,λc i=>DQ X k ret pol l c i b d e f⟩
def rlF (X:SpV) (r:Rl):SpV×Int:=
 if cW r=true then(if(X.K r.src).isSome=true/\(X.K r.dst).isSome=true then(if(X.R r.dst).isSome=true then(X,6)else if(X.R r.src).isSome=true∨0<(ofX X r.dst).length then(X,10)else({pN X r.dst (some r)with n:=X.n+1},0))else(X,5))else(X,1)
def Uz(X:SpV)(cs:List AV)(a:SpV)(v:AV):Prop:=∃r Y,cs=[gR r]/\X.n<1000/\rlF X r=Y/\a=Y.1/\v= .si .i64 Y.2
def UA:FuncId->EP:=bb 38 [] (aq 89 (cQ Ue) (cf 84 (dO 4 IxB J1) (aq 90 (cM 2 GrB R5) evP)))
theorem QM:aU UA:=au (ag (aO (ag az Qx) rW (Fs _ _ _)) Wg) (by kernel_rfl) (by kernel_rfl)
theorem UB{X:SpV}{c:SpC}(h:bE X c){r:Rl}(a:cW r=true):A7 c.g r=(if(X.R r.dst).isSome=true then(c.g,.si .i64 6)else if(X.R r.src).isSome=true∨0<(ofX X r.dst).length then(c.g,.si .i64 10)else(gP c.g r.dst r,.si .i64 0)):=by
 unfold A7;rw[if_neg (by rw[a];simp),h.R,h.R,h.of]
theorem Bg(X:SpV)(r:Rl)(c:SpC)(a:bE X c)(hn:X.n<1000){Y:SpV×Int}(b:rlF X r=Y):ax UA 5 38 [.ptr 0 0,gR r] (mkH (bH (spO c) 0)) 5 (gi SpB Y.1 (.si .i64 Y.2)):=by
 obtain⟨G,H⟩:=Y;have u:=a.has r.src;have v:=a.has r.dst;have l:c.g.length<=1000:=X9 a.gl a.n9;unfold rlF at b
 conv=>whnf
 refine⟨_,_,_,.cons .same .nil,⟨r,rfl,rfl⟩,?_⟩
 conv=>whnf
 refine ae.nsb (λk=>?_) (λk=>?_)
 focus
  rw[if_neg (by rw[k];simp)]at b;injection b with f h;subst f h
  conv=>whnf
  exact⟨_,c,.told rfl,a,bK rfl rfl rfl rfl rfl⟩
 rw[if_pos k]at b
 conv=>whnf
 refine⟨2,c.px,c.x,[.ss r.src],.sb (X.K r.src).isSome,rfl,by decide,by decide,.cons .same .nil,rfl,rfl,⟨r.src,rfl,congrArg AV.sb u.symm⟩,?_⟩
 conv=>whnf
 refine ae.nsb (λz2=>?_) (λz2=>?_)
 focus
  rw[if_neg (λq=>by rw[z2]at q;cases q.1)]at b;injection b with f h;subst f h
  conv=>whnf
  exact⟨_,c,.told rfl,a,bK rfl rfl rfl rfl rfl⟩
 conv=>whnf
 refine⟨2,c.px,c.x,[.ss r.dst],.sb (X.K r.dst).isSome,rfl,by decide,by decide,.cons .same .nil,rfl,rfl,⟨r.dst,rfl,congrArg AV.sb v.symm⟩,?_⟩
 conv=>whnf
 refine ae.nsb (λp=>?_) (λp=>?_)
 focus
  rw[if_neg (λq=>by rw[p]at q;cases q.2)]at b;injection b with f h;subst f h
  conv=>whnf
  exact⟨_,c,.told rfl,a,bK rfl rfl rfl rfl rfl⟩
 rw[if_pos ⟨z2,p⟩]at b;have i:=UB a k
 conv=>whnf
 by_cases s:(X.R r.dst).isSome=true
 ·rw[if_pos s]at b i;injection b with f h;subst f h;refine⟨3,c.pg,c.g,[gR r],_,_,_,rfl,by decide,by decide,.cons .same .nil,rfl,rfl,⟨r,_,rfl,l,i,rfl,rfl,rfl⟩,?_⟩
  conv=>whnf
  exact⟨_,c,.told rfl,a,bK rfl rfl rfl rfl rfl⟩
 ·rw[if_neg s]at b i;by_cases t:(X.R r.src).isSome=true∨0<(ofX X r.dst).length
  ·rw[if_pos t]at b i;injection b with f h;subst f h;refine⟨3,c.pg,c.g,[gR r],_,_,_,rfl,by decide,by decide,.cons .same .nil,rfl,rfl,⟨r,_,rfl,l,i,rfl,rfl,rfl⟩,?_⟩
   conv=>whnf
   exact⟨_,c,.told rfl,a,bK rfl rfl rfl rfl rfl⟩
  ·rw[if_neg t]at b i;injection b with f h;subst f h
   have ok:bE {pN X r.dst (some r)with n:=X.n+1} {c with g:=gP c.g r.dst r}:=by
    have z:=a.ml;have B:=a.xl;have C:=a.xw;have D:=a.gl;have E:=xB c.g r.dst r;refine⟨a.o,a.xk,uV a.gk _ _,?_,?_,?_,?_,?_,a.K,a.I,λd=>?_,λe F=>?_,a.ser,a.key,λd y j=>?_⟩
    ·show X.n+1<=1000;omega
    ·show c.m.A.length<=X.n+1;omega
    ·show c.x.A.length<=X.n+1;omega
    ·show c.x.w<=8*(X.n+1);omega
    ·show(gP c.g r.dst r).length<=X.n+1;omega
    ·show aL (gP c.g r.dst r) d=if d=r.dst then some r else X.R d
     rw[pI a.gk,a.R]
    ·have:=eI (uV a.gk r.dst r) (show(e.1,e.2)∈gP c.g r.dst r from F);rw[pI a.gk]at this;split at this
     ·rename_i q;injection this with this;rw[q,<-this]
     ·exact a.dst e (cR this)
    ·have j:(if d=r.dst then some r else X.R d)=some y:=j;split at j
     ·injection j with j;subst j;exact k
     ·exact a.rul d y j
   refine⟨3,c.pg,c.g,[gR r],_,_,_,rfl,by decide,by decide,.cons .same .nil,rfl,rfl,⟨r,_,rfl,l,i,rfl,rfl,rfl⟩,?_⟩
   conv=>whnf
   exact⟨_,{c with g:=gP c.g r.dst r},.told rfl,ok,bK rfl rfl rfl rfl rfl⟩
theorem XQ:∀X cs a v,Uz X cs a v->cs.all ga=true/\ga v=true/\∀c,SpB.ok X c->ax UA 5 38 (.ptr 0 0::cs) (mkH (bH (SpB.O c) 0)) 5 (gi SpB a v):=λX cs a v ⟨r,Y,b,d,e,f,g⟩=>by
 subst b f g;exact⟨rfl,rfl,λc h=>Bg X r c h d e⟩
theorem FP:ai 38 (iC 5 SpB Uz):=xm (ay QM 5 _) (by kernel_rfl) SpB rfl (by decide) XQ
def uj(B:Smp->List AV->Smp->Prop)(args:List AV)(H:AH)(n:Nat)(κ:PK):Prop:=match args with
 |x::a=>∃(b:Nat) (A C:List HP) (p:Nat×Nat) (S:Sr) (L O:Smp),x=aK p/\b<n/\n<700000/\iA H 5 n=true/\H.get b=some (.sep (aF (A++cL p S L::C)))/\B L a O/\κ (.fr O.length 2 (smp O)) H (n+5)
 |_=>False
theorem FQ(B:Smp->List AV->Smp->Prop):fU (uj B):=λargs H n l a=>by
 unfold uj at*;split at a
 ·obtain⟨b,A,C,p,S,L,O,c,d,e,f,g,i,j⟩:=a;exact⟨_,_,_,j,λ_ _ h=>h,q0j _ _,λk h=>⟨b,A,C,p,S,L,O,c,d,e,f,g,i,h⟩⟩
 ·exact a.elim
theorem ai.qf{f:FuncId}{B:Smp->List AV->Smp->Prop}(h:ai f (xy B)):ai f (uj B):=λargs H n κ c F t G I K J a M=>by
 unfold uj at c;split at c
 ·rename_i x N;obtain⟨b,A,C,p,S,L,O,P,Q,R,v,T,U,V⟩:=c;refine h (x::N) H n (λu D E=>u= .rw (n+4) 0 O.length 2 0/\D=H.set (some (.cells (smp O) true)) aa (n+4)/\E=n+5) ⟨b,A,C,p,S,L,O,P,Q,R,v,T,U,rfl,rfl,rfl⟩ F t G I K J a λW u D E w g d X Y ⟨Z,e2,e3⟩=>?_
  subst Z e2 e3;obtain⟨χ,l,i,j⟩:=Re.row (x:=0) (z:=true) (H:=H.set (some (.cells (smp O) true)) aa (n+4)) (b:=n+4) (m:=O.length) (k:=2) (l:=smp O) (s:=smp O) (PM.geq (by omega)) (b8 O) (bh O) rfl (by decide) W t g w X Y
  refine M χ _ H _ w g (d.trans l) (i.less λy o r=>?_) j V;have q:y≠n+4:=λe=>by subst e;rw[eJ (k:=4) v (by decide)]at r;cases r
  exact PM.gne (by omega) q (PM.gne (by omega) q r)
 ·exact c.elim
theorem Ob:ai 21 (uj Dm):=R7.qf
def cI(r:Rl)(s:Int×SpV)(x:Int×Int):Int×SpV:=if s.1<bB r x.1 then(bB r x.1,cg s.2 r (bB r x.1))else s
def sd(r:Rl)(X:SpV)(L:Smp):Int×SpV:=L.foldl (cI r) (-1,X)
theorem Ki{r:Rl}{X:SpV}{L:Smp}{i:Nat}(h:i<L.length):sd r X (L.take (i+1))=cI r (sd r X (L.take i)) L[i]:=by
 unfold sd;rw[X8 h,q2t];rfl
theorem nF{r:Rl}{k:Tx}:∀(L:Smp) {s:Int×SpV} {b:Nat},Bnd s.2 b→-1<=s.1->(L.foldl (cI r) s).2.R=s.2.R/\(L.foldl (cI r) s).2.n=s.2.n/\(∀x,((L.foldl (cI r) s).2.K x).isSome=(s.2.K x).isSome)/\(∀x,x≠r.dst->(L.foldl (cI r) s).2.K x=s.2.K x)/\Bnd (L.foldl (cI r) s).2 (b+L.length)∧-1<=(L.foldl (cI r) s).1
 | [],s,b,c,d=>⟨rfl,rfl,λ_=>rfl,λ_ _=>rfl,c,d⟩
 |x::L,s,b,c,d=>by
  rw[List.foldl_cons];have p:=jy (t:=x.1) (s:=r.size) (a:=r.align);by_cases q:s.1<bB r x.1
  ·have e:cI r s x=(bB r x.1,cg s.2 r (bB r x.1)):=if_pos q;rw[e];obtain⟨f,g,h,i,j,l⟩:=nF (k:=k) L (s:=(bB r x.1,cg s.2 r (bB r x.1))) (mL c) (by show-1<=bB r x.1;unfold bB;omega);refine⟨f.trans iV.1,g.trans iV.2,λy=>(h y).trans jt,λy m=>(i y m).trans (ln m),?_,l⟩;rw[Z8,show b+(L.length+1)=b+1+L.length by omega];exact j
  ·have e:cI r s x=s:=if_neg q;rw[e];obtain⟨f,g,h,i,j,l⟩:=nF (k:=k) L c d;exact⟨f,g,h,i,λy z o=>by have:=j y z o;rw[Z8];omega,l⟩
def Oc(X:SpV)(cs:List AV)(a:SpV)(v:AV):Prop:=∃r L,cs=[gR r,.fr L.length 2 (smp L)]/\L.length<=5000/\r.src≠r.dst/\(X.K r.src).isSome=true/\(X.K r.dst).isSome=true/\Bnd X 25000/\a=(sd r X L).2/\v= .tup []
def Wv:FuncId->EP:=bb 102 [] (aq 75 (iC 5 SpB Ut) (cf 54 (vR fV) evP))
theorem QN:aU Wv:=au (ag (aO az zW Cl) N3) (by kernel_rfl) (by kernel_rfl)
def alL (c:SpC) (r:Rl) (L:Smp) (i:Nat) (last:Int):AE×AH:=(mkE [(0,.ptr 0 (0)),(4,.ptr 5 (0)),(6,.si .i64 (last)),(10,.fr L.length 2 (smp L)),(11,.si .i64 ((L.length:Int))),(12,.si .i64 ((i:Int)))],mkH [(0,.cells [.map 1,aK c.px,aK c.pg] true),(1,c.m.O kT gE),(2,.sep (IxB.Q c.x c.px)),(3,.sep (GrB.Q c.g c.pg)),(4,.sep (aF (aM c.m.A))),(5,.cells (ruC r) true)])
theorem Bh{c:SpC}{r:Rl}{L:Smp}{i:Nat}{last:Int}{p n:Nat}{σ:AE}{H:AH}(e:p<=6)(f:aj (pa 0) σ= .ptr 0 (0))(h:aj (pa 4) σ= .ptr 5 (0))(j:mk (aj (pa 6) σ)= .si .i64 (last))(a:aj (pa 10) σ= .fr L.length 2 (smp L))(b:mk (aj (pa 11) σ)= .si .i64 ((L.length:Int)))(d:mk (aj (pa 12) σ)= .si .i64 ((i:Int)))(k:H.get 0=some (.cells [.map 1,aK c.px,aK c.pg] true))(l:H.get 1=some (c.m.O kT gE))(o:H.get 2=some (.sep (IxB.Q c.x c.px)))(q:H.get 3=some (.sep (GrB.Q c.g c.pg)))(s:H.get 4=some (.sep (aF (aM c.m.A))))(t:H.get 5=some (.cells (ruC r) true)):Cov p σ H n ((alL c r L i last).1,(alL c r L i last).2,6):=
 Cov.ofA e ⟨.ptr (by decide) f,.ptr (by decide) h,.int j,ah.frE a,.int b,.int d,trivial⟩ ⟨.inl ⟨_,k,ao.refl rfl⟩,.inl ⟨_,l,ao.refl (bl dQ uh)⟩,.inl ⟨_,o,ao.sep _⟩,.inl ⟨_,q,ao.sep _⟩,.inl ⟨_,s,ao.sep _⟩,.inl ⟨_,t,ao.refl rfl⟩,trivial⟩ rfl
theorem Kj(X:SpV)(r:Rl)(L:Smp)(c:SpC)(E:bE X c)(R:L.length<=5000)(F:r.src≠r.dst)(G:(X.K r.src).isSome=true)(hd:(X.K r.dst).isSome=true)(H:Bnd X 25000):ax Wv 6 102 [.ptr 0 0,gR r,.fr L.length 2 (smp L)] (mkH (bH (spO c) 0)) 5 (gi SpB (sd r X L).2 (.tup [])):=by
 conv=>whnf
 refine aR.mk {w:Nat×SpC×Int//w.1<=L.length/\bE (sd r X (L.take w.1)).2 w.2.1/\w.2.2=(sd r X (L.take w.1)).1} 6 (λw=>alL w.val.2.1 r L w.val.1 w.val.2.2) (λw=>L.length-w.val.1) ⟨(0,c,-1),X5 _,E,rfl⟩ ?_ ?_
 focus
  exact Bh (c:=c) (r:=r) (L:=L) (i:=0) (last:= -1) (by decide) rfl rfl rfl rfl rfl rfl rfl rfl rfl rfl rfl rfl
 intro⟨(i,j,f),x,b,a⟩;have x:i<=L.length:=x;obtain⟨Z,l⟩:∃Z,Z=sd r X (L.take i):=⟨_,rfl⟩;have b:bE Z.2 j:=by rw[l];exact b
 have a:f=Z.1:=by rw[l];exact a
 obtain⟨I,J,t,M,A,N⟩:=nF (r:=r) (k:=r.src) (L.take i) (s:=(-1,X)) H (Int.le_refl _);have u:(L.take i).foldl (cI r) (-1,X)=Z:=by rw[l];rfl
 rw[u]at I J t M A N;have B:Bnd Z.2 30000:=λy z O=>X9 (A y z O) (by rw[Y7];omega)
 have C:IntKind.i64.wrap ((i:Int)+1)=((i+1:Nat):Int):=by rw[al (by omega) (by omega)];omega
 conv=>whnf
 refine ae.dec (λh=>?_) (λh=>?_)
 focus
  have m:i<L.length:=q0o.1 h;have n:L.length-(i+1)<L.length-i:=by omega
  have sub:=fG m rfl
  have g:=Ki (r:=r) (X:=X) m;rw[<-l]at g;obtain⟨s,o⟩:=q0l.1 (show(Z.2.K r.src).isSome=true by rw[t];exact G);obtain⟨d,p⟩:=q0l.1 (show(Z.2.K r.dst).isSome=true by rw[t];exact hd);have ls:=B _ _ o;have P:=B _ _ p
  conv=>whnf
  refine Idx.mk i rfl m ?_
  conv=>whnf
  refine aw sub ?_
  conv=>whnf
  refine ae.dec (λz=>?_) (λz=>?_)
  focus
   have e:cI r Z L[i]=(bB r L[i].1,cg Z.2 r (bB r L[i].1)):=if_pos (by rw[<-a];exact z);rw[e]at g
   conv=>whnf
   refine⟨Z.2,[gR r,.si .i64 (bB r L[i].1)],cg Z.2 r (bB r L[i].1),.tup [],_,j,rfl,by decide,.cons .same (.cons .same .nil),b,tq rfl rfl rfl rfl rfl,⟨r,bB r L[i].1,s,d,rfl,o,p,ls,P,rfl,rfl⟩,λD v=>?_⟩
   conv=>whnf
   exact⟨⟨(i+1,D,bB r L[i].1),m,by rw[g];exact v,by rw[g]⟩,n,Bh (c:=D) (r:=r) (L:=L) (i:=i+1) (last:=bB r L[i].1) (by decide) rfl rfl rfl rfl rfl (congrArg (AV.si .i64) C) rfl rfl rfl rfl rfl rfl⟩
  have e:cI r Z L[i]=Z:=if_neg (by rw[<-a];exact z);rw[e]at g
  conv=>whnf
  exact⟨⟨(i+1,j,f),m,by rw[g];exact b,by rw[g];exact a⟩,n,Bh (c:=j) (r:=r) (L:=L) (i:=i+1) (last:=f) (by decide) rfl rfl rfl rfl rfl (congrArg (AV.si .i64) C) rfl rfl rfl rfl rfl rfl⟩
 have Q:i=L.length:=by have h:¬(i:Int)<(L.length:Int):=h;omega
 have q:bE (sd r X L).2 j:=by have:=b;rw[l,Q,q0e]at this;exact this
 conv=>whnf
 exact⟨_,j,.told rfl,q,bK rfl rfl rfl rfl rfl⟩
theorem H6:ai 102 (iC 5 SpB Oc):=xm (ay QN 6 _) (by kernel_rfl) SpB rfl (by decide) λX cs k v ⟨r,L,a,b,d,e,f,g,h,i⟩=>by
 subst a h i;exact⟨rfl,rfl,λc j=>Kj X r L c j b d e f g⟩
def DR(X:SpV)(k:Tx)(e:fy):SpV:=fJ X k {e with L:=aJ e.L 0 1099511627776}
def lkF (X:SpV) (r:Rl):SpV×Int:=if(rlF X r).2≠0 then rlF X r else match(rlF X r).1.K r.dst,(rlF X r).1.K r.src with
 |some d,some s=>((sd r (DR (rlF X r).1 r.dst d) (ba 0 1099511627776 s.L)).2,0)
 |_,_=>rlF X r
def UC(X:SpV)(cs:List AV)(a:SpV)(v:AV):Prop:=∃r Y,cs=[gR r]/\X.n<1000/\Bnd X 5000/\lkF X r=Y/\a=Y.1/\v= .si .i64 Y.2
def Od:DT:=[(4,[(some 0,[0]),(some 0,[12]),(some 0,[13]),(some 0,[14]),(some 0,[3]),(some 0,[16]),(some 0,[15,17]),(some 0,[18])]),
 (5,[(some 0,[0]),(some 0,[3]),(some 0,[0]),(some 0,[23]),(some 0,[24]),(some 0,[25]),(some 0,[3]),(some 0,[27]),(some 0,[26,28]),(some 0,[29]),(none,[30])])]
def Ww:FuncId->EP:=bb 48 Od (aq 38 (iC 5 SpB Uz) (cf 21 (uj Dm) (aq 100 zd (aq 102 (iC 5 SpB Oc) evP))))
theorem QO:aU Ww:=au (ag (aO (ag (ag az H6) Ba) Ob (FQ _)) FP) (by kernel_rfl) (by kernel_rfl)
theorem UD{X:SpV}{r:Rl}(h:(rlF X r).2=0):cW r=true/\(X.K r.src).isSome=true/\(X.K r.dst).isSome=true/\(rlF X r).1={pN X r.dst (some r)with n:=X.n+1}:=by
 unfold rlF at*;split at h
 ·rename_i b;rw[if_pos b];split at h
  ·rename_i a;rw[if_pos a];split at h
   ·cases h
   ·rename_i c;rw[if_neg c];split at h
    ·cases h
    ·rename_i d;rw[if_neg d];exact⟨b,a.1,a.2,rfl⟩
  ·cases h
 ·cases h
theorem FT(X:SpV)(r:Rl)(c:SpC)(hc:bE X c)(hn:X.n<1000)(N:Bnd X 5000){Y:SpV×Int}(h:lkF X r=Y):ax Ww 6 48 [.ptr 0 0,gR r] (mkH (bH (spO c) 0)) 5 (gi SpB Y.1 (.si .i64 Y.2)):=by
 obtain⟨Y1,Y2⟩:=Y;have l:=UD (X:=X) (r:=r);unfold lkF at h;obtain⟨Z,W⟩:∃Z,Z=rlF X r:=⟨_,rfl⟩;rw[<-W]at h l;obtain⟨D,Z2⟩:=Z;dsimp only at h l
 conv=>whnf
 refine⟨X,[gR r],D,.si .i64 Z2,_,c,rfl,by decide,.cons .same .nil,hc,tq rfl rfl rfl rfl rfl,⟨r,_,rfl,hn,W.symm,rfl,rfl⟩,λf o=>?_⟩
 conv=>whnf
 refine ae.c6 (λI=>?_) (λI=>?_)
 focus
  rw[if_pos I]at h;injection h with e1 e2;subst e1 e2
  conv=>whnf
  exact⟨_,f,.told rfl,o,bK rfl rfl rfl rfl rfl⟩
 rw[if_neg (λq=>q I)]at h;obtain⟨h1,h2,h3,h4⟩:=l I;have p:D.K=X.K:=by rw[h4];rfl
 obtain⟨s,hs⟩:=q0l.1 h2;obtain⟨d,hd⟩:=q0l.1 h3;have E:D.K r.src=some s:=by rw[p];exact hs
 have t:D.K r.dst=some d:=by rw[p];exact hd
 rw[E,t]at h;dsimp only at h;injection h with e1 e2;subst e1 e2;have F:=mM h1;have ls:=N _ _ hs;have ld:=N _ _ hd;obtain⟨J,P,Q,g2,a2,u2,q2⟩:=o.at1 t;obtain⟨j,u⟩:∃j,j=aJ d.L 0 1099511627776:=⟨_,rfl⟩
 conv=>whnf
 refine Ask.mk _ (aZ (m:=f.m) (g:=gE) (k:=r.dst) bQ nX rfl rfl rfl pM g2) ?_
 conv=>whnf
 refine⟨4,aM P,aM Q,J,d.S,d.L,0,1099511627776,j,_,rfl,by decide,by decide,rfl,congrArg (λx=>some (AO.sep (aF x))) q2,rfl,rfl,by omega,u.symm,rfl,λho=>?_⟩;obtain⟨M,k2,k3⟩:=o.xx t g2 a2 u2 ho;obtain⟨v,w⟩:∃v,v=DR D r.dst d:=⟨_,rfl⟩;have b:fJ D r.dst {d with S:=d.S,L:=j}=v:=by rw[w,u];rfl
 rw[b]at M;rw[<-w];obtain⟨e,i⟩:∃e:SpC,e={f with m:=f.m.put r.dst ⟨J,d.S,j,d.z⟩}:=⟨_,rfl⟩;rw[<-i]at M;have G:f.m.O kT gE=e.m.O kT gE:=by rw[i];exact k2.symm
 have B:aM P++cL J d.S j::aM Q=aM e.m.A:=by rw[i];exact k3.symm
 have a:f.px=e.px/\f.pg=e.pg/\f.x=e.x/\f.g=e.g:=by rw[i];exact⟨rfl,rfl,rfl,rfl⟩
 have H:v.K r.src=some s:=by rw[w];unfold DR;rw[fq,if_neg F];exact E
 have R:j.length<=5000:=by rw[u];exact X9 (q0y _ _) ld
 have T:Bnd v 25000:=λx y C=>by
  rw[<-b,fq]at C;split at C
  ·injection C with C;subst C;exact X9 R (by decide)
  ·rw[p]at C;exact X9 (N x y C) (by decide)
 have U:(v.K r.dst).isSome=true:=by rw[<-b,fq,if_pos rfl];rfl
 obtain⟨p1,A1,A2,g1,a1,u1,q1⟩:=M.at1 H;have hO:(PM.set (some (.sep (aF (aM P++cL J d.S j::aM Q)))) aa (mkH (bH (spO f) 0)) 4).get 4=some (.sep (aF (aM e.m.A))):=congrArg (λx=>some (AO.sep (aF x))) B
 conv=>whnf
 refine Ask.mk _ (aZ (m:=e.m) (g:=gE) (k:=r.src) bQ nX rfl rfl (congrArg some G) pM g1) ?_
 conv=>whnf
 refine⟨4,aM A1,aM A2,p1,s.S,s.L,ba 0 1099511627776 s.L,rfl,by decide,by decide,rfl,congrArg (λx=>some (AO.sep (aF x))) (B.trans q1),⟨_,_,0,1099511627776,rfl,rfl,rfl,rfl⟩,?_⟩
 conv=>whnf
 refine⟨v,[gR r,.fr (ba 0 1099511627776 s.L).length 2 (smp (ba 0 1099511627776 s.L))],_,.tup [],_,e,rfl,by decide,.cons .same (.cons .same .nil),M,tq ?_ (congrArg some G) ?_ ?_ (congrArg (λx=>some (AO.sep (aF x))) B),⟨r,ba 0 1099511627776 s.L,rfl,X9 (q0y _ _) ls,F,by rw[H];rfl,U,T,rfl,rfl⟩,λc3 V=>?_⟩
 ·rw[<-a.1,<-a.2.1];exact rfl
 ·rw[<-a.1,<-a.2.2.1];exact rfl
 ·rw[<-a.2.1,<-a.2.2.2];exact rfl
 conv=>whnf
 exact⟨_,c3,.told rfl,V,bK rfl rfl rfl rfl rfl⟩
theorem DS:ai 48 (cM 5 SpB UC):=gj QO 6 (by kernel_rfl) SpB rfl (by decide) λX cs i v ⟨r,Y,a,b,d,e,f,g⟩=>by
 subst a f g;exact⟨rfl,rfl,λc h=>FT X r c h b d e⟩
theorem UE{R:Gr}{so:Rl->Bool}(l:(R.map Prod.fst).Nodup)(hd:∀e∈R,e.2.dst=e.1):((pkF R so).map Rl.dst).Nodup:=by
 have m:=tu (bf ((R.filter λe=>so e.2).map Prod.fst)).1;have n:=tu (bf ((R.filter λe=>so e.2).map λe=>e.2.src)).1
 have f:∀d∈aH ((R.filter λe=>so e.2).map Prod.fst),(rul R d).dst=d:=λd h=>by
  rw[(bf _).2,q0m]at h;obtain⟨e,j,rfl⟩:=h;have c:=eI l (show(e.1,e.2)∈R from(q0v.1 j).1);unfold rul;rw[c];exact hd e (q0v.1 j).1
 have o:∀s,(pkS (aH ((R.filter λe=>so e.2).map Prod.fst)) R s).map Rl.dst=(aH ((R.filter λe=>so e.2).map Prod.fst)).filter λd=>decide ((rul R d).src=s):=λs=>by
  unfold pkS;rw[q4i]
  conv=>rhs;rw[<-List.map_id (List.filter _ _)]
  exact q2s λd g=>f d (q0v.1 g).1
 unfold pkF;rw[List.map_flatMap];have p:(λs=>(pkS (aH ((R.filter λe=>so e.2).map Prod.fst)) R s).map Rl.dst)=λs=>(aH ((R.filter λe=>so e.2).map Prod.fst)).filter λd=>decide ((rul R d).src=s):=funext o
 rw[p];refine List.pairwise_flatMap.2 ⟨λs _=>m.filter _,n.imp λ{a b} i x r y t q=>?_⟩;subst q;have c:=(q0v.1 r).2;have k:=(q0v.1 t).2;simp only[decide_eq_true_eq]at c k;exact i (c.symm.trans k)
theorem bE.Wx{X:SpV}{c:SpC}(h:bE X c)(k:Tx):((ofX X k).map Rl.dst).Nodup:=by
 rw[<-h.of];exact UE h.gk h.dst
theorem Kk{X:SpV}{r:Rl}{t:Int}{e:fy}(h:(cg X r t).K r.dst=some e):∃d,X.K r.dst=some d/\e.L.length<=d.L.length+1:=by
 unfold cg at h;split at h
 ·rename_i s d b a;rw[fq,if_pos rfl]at h;injection h with h;subst h;refine⟨d,a,?_⟩;show(gK r t s d).2.length<=_;unfold gK;split
  ·exact q2b _
  ·split
   ·exact rO _ _ _ _ _
   ·exact X9 (q0y _ _) (q2b _)
 ·exact⟨e,h,q2b _⟩
theorem DU{r:Rl}:∀(L:Smp) {s:Int×SpV} {e:fy},((L.foldl (cI r) s).2.K r.dst=some e)->∃d,s.2.K r.dst=some d/\e.L.length<=d.L.length+L.length
 | [],s,e,h=>⟨e,h,Z3 _⟩
 |x::L,s,e,h=>by
  obtain⟨d,a,f⟩:=DU L h;rw[Z8];unfold cI at a;split at a
  ·obtain⟨b,c,g⟩:=Kk a;exact⟨b,c,by omega⟩
  ·exact⟨d,a,by omega⟩
def dC(gone:Smp)(X:SpV)(r:Rl):SpV:=(sd r X gone).2
theorem xE{gone:Smp}{b:Nat}:∀(a:List Rl) {X:SpV},(a.map Rl.dst).Nodup->(∀x e,X.K x=some e->e.L.length<=b+gone.length/\(x∈a.map Rl.dst->e.L.length<=b))->(a.foldl (dC gone) X).R=X.R/\(a.foldl (dC gone) X).n=X.n/\(∀x,((a.foldl (dC gone) X).K x).isSome=(X.K x).isSome)/\(∀x,x∉a.map Rl.dst->(a.foldl (dC gone) X).K x=X.K x)/\Bnd (a.foldl (dC gone) X) (b+gone.length)
 | [],X,_,h=>⟨rfl,rfl,λ_=>rfl,λ_ _=>rfl,λx e c=>(h x e c).1⟩
 |r::a,X,nd,h=>by
  rw[q1j,q2m]at nd;obtain⟨m,o,p,i,_,_⟩:=nF (r:=r) (k:=r.src) gone (s:=(-1,X)) (b:=b+gone.length) (λx e c=>(h x e c).1) (Int.le_refl _)
  have t:∀x e,(dC gone X r).K x=some e->e.L.length<=b+gone.length/\(x∈a.map Rl.dst->e.L.length<=b):=λx e c=>by
   by_cases q:x=r.dst
   ·subst q;obtain⟨d,f,j⟩:=DU gone c;have:=(h _ d f).2 (by simp);exact⟨by omega,λq=>absurd q nd.1⟩
   ·have g:X.K x=some e:=(i x q).symm.trans c;obtain⟨f,j⟩:=h x e g;exact⟨f,λu=>j (by rw[q1j];exact X7 _ u)⟩
  obtain⟨v,w,y,z,A⟩:=xE a nd.2 t;exact⟨v.trans m,w.trans o,λx=>(y x).trans (p x),λx l=>(z x λq=>l (by rw[q1j];exact X7 _ q)).trans (i x λq=>l (by rw[q];simp)),A⟩
def se (X:SpV) (k:Tx) (a b:Int):SpV×Int×Int:=if cX X k≠0 then(X,0,cX X k)else match X.K k with
 |none=>(X,0,5)
 |some e=>((ofX X k).foldl (dC (ba a b e.L)) (fJ X k {e with L:=aJ e.L a b}),((e.L.length-(aJ e.L a b).length:Nat):Int),0)
def Bi(X:SpV)(cs:List AV)(c:SpV)(u:AV):Prop:=∃k a b Y,cs=[.ss k,.si .i64 a,.si .i64 b]/\Links X/\Bnd X 5000/\se X k a b=Y/\c=Y.1/\u= .tup [.si .i64 Y.2.1,.si .i64 Y.2.2]
def Wy:FuncId->EP:=bb 44 [] (bb 101 [] (bb 73 [] (aq 133 (dO 2 GrB NQ) (aq 61 (iC 5 SpB QA) (cf 21 (uj Dm) (aq 100 zd (aq 102 (iC 5 SpB Oc) evP)))))))
theorem QP:aU Wy:=au (au (au (ag (ag (aO (ag (ag az H6) Ba) Ob (FQ _)) A8) NR) (by kernel_rfl) (by kernel_rfl)) (by kernel_rfl) (by kernel_rfl)) (by kernel_rfl) (by kernel_rfl)
def dlL (c:SpC) (gone:Smp) (L:List Rl) (j:Nat):AE×AH:=(mkE [(2,AV.fn 101 [] [.ptr 5 0,.ptr 11 0]),(13,.fr L.length 5 (ruL L)),(14,.si .i64 ((L.length:Int))),(15,.si .i64 ((j:Int)))],mkH [(0,.cells [.map 1,aK c.px,aK c.pg] true),(1,c.m.O kT gE),(2,.sep (IxB.Q c.x c.px)),(3,.sep (GrB.Q c.g c.pg)),(4,.sep (aF (aM c.m.A))),(5,.cells [.ptr 0 0] true),(11,.cells [.fr gone.length 2 (smp gone)] true)])
theorem H8{c:SpC}{gone:Smp}{L:List Rl}{j:Nat}{p n:Nat}{σ:AE}{H:AH}(h:p<=17)(i:ah H 17 (λb=>b) (aj (pa 2) σ) (AV.fn 101 [] [.ptr 5 0,.ptr 11 0]))(a:aj (pa 13) σ= .fr L.length 5 (ruL L))(d:mk (aj (pa 14) σ)= .si .i64 ((L.length:Int)))(e:mk (aj (pa 15) σ)= .si .i64 ((j:Int)))(k:H.get 0=some (.cells [.map 1,aK c.px,aK c.pg] true))(l:H.get 1=some (c.m.O kT gE))(o:H.get 2=some (.sep (IxB.Q c.x c.px)))(q:H.get 3=some (.sep (GrB.Q c.g c.pg)))(r:H.get 4=some (.sep (aF (aM c.m.A))))(s:H.get 5=some (.cells [.ptr 0 0] true))(f:H.get 11=some (.cells [.fr gone.length 2 (smp gone)] true)):Cov p σ H n ((dlL c gone L j).1,(dlL c gone L j).2,17):=
 Cov.ofA h ⟨i,ah.frE a,.int d,.int e,trivial⟩ ⟨.inl ⟨_,k,ao.refl rfl⟩,.inl ⟨_,l,ao.refl (bl dQ uh)⟩,.inl ⟨_,o,ao.sep _⟩,.inl ⟨_,q,ao.sep _⟩,.inl ⟨_,r,ao.sep _⟩,.inl ⟨_,s,ao.refl rfl⟩,.inl ⟨_,f,ao.refl rfl⟩,trivial⟩ rfl
theorem Kl(X:SpV)(k:Tx)(a b:Int)(c:SpC)(hc:bE X c)(hl:Links X)(hb:Bnd X 5000){Y:SpV×Int×Int}(E:se X k a b=Y):ax Wy 6 44 [.ptr 0 0,.ss k,.si .i64 a,.si .i64 b] (mkH (bH (spO c) 0)) 5 (gi SpB Y.1 (.tup [.si .i64 Y.2.1,.si .i64 Y.2.2])):=by
 obtain⟨Y1,Y2,Y3⟩:=Y
 conv=>whnf
 refine⟨X,[.ss k],X,_,_,c,rfl,by decide,.cons .same .nil,hc,tq rfl rfl rfl rfl rfl,⟨k,rfl,rfl,rfl⟩,λi f=>?_⟩
 conv=>whnf
 refine ae.c6 (λF=>?_) (λF=>?_)
 focus
  unfold se at E;rw[if_pos F]at E;injection E with e1 e2;injection e2 with e2 e3;subst e1 e2 e3
  conv=>whnf
  exact⟨_,i,.told rfl,f,bK rfl rfl rfl rfl rfl⟩
 have F:cX X k=0:=F;unfold se at E;rw[if_neg (by rw[F];exact λq=>q rfl)]at E
 have hK:(X.K k).isSome=true:=by
  unfold cX at F;by_cases q:(X.K k).isSome=true
  ·exact q
  ·rw[if_neg q]at F;cases F
 obtain⟨e,N⟩:=q0l.1 hK;rw[N]at E;dsimp only at E;injection E with e1 e2;injection e2 with e2 e3;obtain⟨P,A1,A2,g1,a1,u1,q1⟩:=f.at1 N;have hL:=hb k e N;obtain⟨gone,I⟩:∃gone,gone=ba a b e.L:=⟨_,rfl⟩;obtain⟨G,u⟩:∃G,G=aJ e.L a b:=⟨_,rfl⟩;have hgl:gone.length<=5000:=by rw[I];exact X9 (q0y _ _) hL
 have hLl:G.length<=5000:=by rw[u];exact X9 (q0y _ _) hL
 rw[<-I,<-u]at e1;rw[<-u]at e2
 conv=>whnf
 refine Ask.mk _ (aZ (m:=i.m) (g:=gE) (k:=k) bQ nX rfl rfl rfl pM g1) ?_
 conv=>whnf
 refine⟨4,aM A1,aM A2,P,e.S,e.L,gone,rfl,by decide,by decide,rfl,congrArg (λx=>some (AO.sep (aF x))) q1,⟨_,_,a,b,rfl,rfl,rfl,I⟩,?_⟩
 conv=>whnf
 refine Ask.mk _ (aZ (m:=i.m) (g:=gE) (k:=k) bQ nX rfl rfl rfl pM g1) ?_
 conv=>whnf
 refine⟨4,aM A1,aM A2,P,e.S,e.L,a,b,G,_,rfl,by decide,by decide,rfl,congrArg (λx=>some (AO.sep (aF x))) q1,rfl,rfl,by omega,u.symm,rfl,λho=>?_⟩;obtain⟨k1,k2,k3⟩:=f.xx N g1 a1 u1 ho;obtain⟨d,o⟩:∃d,d=ofX X k:=⟨_,rfl⟩;have hR1:ofG i.g k=d:=by rw[o];exact f.of k
 have hnd:(d.map Rl.dst).Nodup:=by rw[o];exact f.Wx k
 rw[<-o]at e1
 have Q:∀r∈d,k≠r.dst/\X.R r.dst=some r/\r.src=k/\r.src≠r.dst:=λr M=>by
  rw[o]at M;obtain⟨m1,T⟩:=f.tv.1 M;have:=mM (f.rul _ _ m1);exact⟨λq=>this (T.trans q),m1,T,this⟩
 have hlen:d.length<=1000:=by rw[o];exact f.N4 k
 have hgg:i.g.length<=1000:=X9 f.gl f.n9;obtain⟨s,v⟩:∃s,s=fJ X k {e with L:=G}:=⟨_,rfl⟩;have k1:bE s {i with m:=i.m.put k ⟨P,e.S,G,e.z⟩}:=by rw[v];exact k1
 rw[<-v]at e1
 have U:Bnd s 5000:=λx y p=>by
  rw[v,fq]at p;split at p
  ·injection p with p;subst p;exact hLl
  ·exact hb x y p
 have V:∀x,(s.K x).isSome=(X.K x).isSome:=λx=>by
  rw[v,fq];by_cases q:x=k
  ·subst q;rw[if_pos rfl,N];rfl
  ·rw[if_neg q]
 obtain⟨t,B⟩:∃t:SpC,t={i with m:=i.m.put k ⟨P,e.S,G,e.z⟩}:=⟨_,rfl⟩;have k2':i.m.O kT gE=t.m.O kT gE:=by rw[B];exact k2.symm
 have k3':aM A1++cL P e.S G::aM A2=aM t.m.A:=by rw[B];exact k3.symm
 have n:t.px=i.px/\t.pg=i.pg/\t.x=i.x/\t.g=i.g:=by rw[B];exact⟨rfl,rfl,rfl,rfl⟩
 rw[<-B]at k1;subst e1 e2 e3
 conv=>whnf
 refine⟨3,i.pg,i.g,[.ss k],.fr d.length 5 (ruL d),rfl,by decide,by decide,.cons .same .nil,rfl,rfl,⟨k,rfl,hgg,by rw[hR1]⟩,?_⟩
 conv=>whnf
 refine aR.mk {w:Nat×SpC//w.1<=d.length/\bE ((d.take w.1).foldl (dC gone) s) w.2} 17 (λw=>dlL w.val.2 gone d w.val.1) (λw=>d.length-w.val.1) ⟨(0,t),X5 _,k1⟩ ?_ ?_
 focus
  refine H8 (c:=t) (gone:=gone) (L:=d) (j:=0) ?_ ?_ ?_ ?_ ?_ ?_ ?_ ?_ ?_ ?_ ?_ ?_
  ·exact Z3 17
  ·exact ah.de (k:=17) rfl rfl (Z3 17) (λ_ _=>rfl)
  ·exact rfl
  ·exact rfl
  ·exact rfl
  ·rw[n.1,n.2.1];exact rfl
  ·exact congrArg some k2'
  ·rw[n.1,n.2.2.1];exact rfl
  ·rw[n.2.1,n.2.2.2];exact rfl
  ·exact congrArg (λx=>some (AO.sep (aF x))) k3'
  ·exact rfl
  ·exact rfl
 intro⟨(j,c3),hj,C⟩;have hj:j<=d.length:=hj;obtain⟨H,D⟩:∃H,H=(d.take j).foldl (dC gone) s:=⟨_,rfl⟩;have C:bE H c3:=by rw[D];exact C
 have hw:IntKind.i64.wrap ((j:Int)+1)=((j+1:Nat):Int):=by rw[al (by omega) (by omega)];omega
 have ndj:((d.take j).map Rl.dst).Nodup:=by rw[q4a];exact hnd.sublist (q4d _ _)
 obtain⟨f1,f2,f3,f4,f5⟩:=xE (gone:=gone) (b:=5000) (d.take j) (X:=s) ndj λx y p=>⟨X9 (U x y p) (q0j _ _),λ_=>U x y p⟩
 rw[<-D]at f1 f2 f3 f4 f5;have hB3:Bnd H 25000:=λx y p=>X9 (f5 x y p) (by omega)
 conv=>whnf
 refine ae.dec (λh=>?_) (λh=>?_)
 focus
  have W:j<d.length:=q0o.1 h;have hlt:d.length-(j+1)<d.length-j:=by omega
  obtain⟨r,M⟩:∃r,r=d[j]:=⟨_,rfl⟩;have sub:bk (ruL d) (j*5) 5=some (ruC r):=by rw[M];exact rY W rfl
  obtain⟨m1,T,m3,m4⟩:=Q r (by rw[M];exact q0b W)
  have J:(d.take (j+1)).foldl (dC gone) s=(sd r H gone).2:=by
   rw[X8 W,q2t,<-D,<-M];rfl
  have hS:(H.K r.src).isSome=true:=by rw[f3,V];exact(hl _ _ T).1
  have hD:(H.K r.dst).isSome=true:=by rw[f3,V];exact(hl _ _ T).2
  conv=>whnf
  refine Idx.mk j rfl W ?_
  conv=>whnf
  refine aw sub ?_
  conv=>whnf
  refine⟨H,[gR r,.fr gone.length 2 (smp gone)],_,.tup [],_,c3,rfl,by decide,.cons .same (.cons .same .nil),C,tq rfl rfl rfl rfl rfl,⟨r,gone,rfl,hgl,m4,hS,hD,hB3,rfl,rfl⟩,λc5 hc5=>?_⟩
  conv=>whnf
  exact⟨⟨(j+1,c5),W,by rw[J];exact hc5⟩,hlt,H8 (c:=c5) (gone:=gone) (L:=d) (j:=j+1) (Z3 17) (ah.de (k:=17) rfl rfl (Z3 17) (λ_ _=>rfl)) rfl rfl (congrArg (AV.si .i64) hw) rfl rfl rfl rfl rfl rfl rfl⟩
 have ej:j=d.length:=by have h:¬(j:Int)<(d.length:Int):=h;omega
 have Z:bE (d.foldl (dC gone) s) c3:=by rw[<-q0e (l:=d),<-ej,<-D];exact C
 conv=>whnf
 exact⟨_,c3,.told rfl,Z,bK rfl rfl rfl rfl rfl⟩
theorem H9:ai 44 (cM 5 SpB Bi):=gj QP 6 (by kernel_rfl) SpB rfl (by decide) λX cs l u ⟨k,a,b,Y,d,e,f,g,h,i⟩=>by
 subst d h i;exact⟨rfl,rfl,λc j=>Kl X k a b c j e f g⟩
def lu(a b:Int):Int×Int:=if pV a b=true then(0,9)else(IntKind.i64.wrap (a+b),0)
def UF(cs:List AV)(v:AV):Prop:=∃a b,cs=[.si .i64 a,.si .i64 b]/\v= .tup [.si .i64 (lu a b).1,.si .i64 (lu a b).2]
theorem Wz:ai 23 (cQ UF):=yZ (ay az 2 _) (by kernel_rfl) λcs v ⟨a,b,k,l⟩=>by
 subst k l;refine⟨rfl,rfl,?_⟩;have e:pV a b=true->lu a b=(0,9):=λq=>if_pos q
 have f:pV a b=false->lu a b=(IntKind.i64.wrap (a+b),0):=λq=>if_neg (by rw[q];simp)
 have m:0<=b->IntKind.i64.wrap (a+b)<a->pV a b=true:=λp q=>decide_eq_true (.inl ⟨p,q⟩)
 have n:b<0->a<IntKind.i64.wrap (a+b)->pV a b=true:=λp q=>decide_eq_true (.inr ⟨p,q⟩)
 have g:(0<=b->¬IntKind.i64.wrap (a+b)<a)->(b<0->¬a<IntKind.i64.wrap (a+b))->pV a b=false:=λp q=>decide_eq_false λh=>h.elim (λh=>p h.1 h.2) (λh=>q h.1 h.2)
 have i:pV a b=true->dA (.tup [.si .i64 (lu a b).1,.si .i64 (lu a b).2]) (.tup [.int .i64 0,.int .i64 9]) .nil 0:=λq=>dA.told (by rw[e q];rfl)
 have j:pV a b=false->dA (.tup [.si .i64 (lu a b).1,.si .i64 (lu a b).2]) (.tup [.si .i64 (IntKind.i64.wrap (a+b)),.int .i64 0]) .nil 0:=λq=>dA.told (by rw[f q];rfl)
 clear e f
 conv=>whnf
 refine ae.dec (λd=>?_) (λd=>?_)
 ·conv=>whnf
  refine ae.dec (λz2=>?_) (λz2=>?_)
  ·have q:=i (m d z2)
   conv=>whnf
   exact q
  ·have q:=j (g (λ_=>z2) (λz=>by omega))
   conv=>whnf
   refine ae.dec (λc=>?_) (λc=>?_)
   ·exact absurd c (by omega)
   ·conv=>whnf
    exact q
 ·conv=>whnf
  refine ae.dec (λc=>?_) (λc=>?_)
  ·conv=>whnf
   refine ae.dec (λz2=>?_) (λz2=>?_)
   ·have q:=i (n c z2)
    conv=>whnf
    exact q
   ·have q:=j (g (λz=>absurd z d) (λ_=>z2))
    conv=>whnf
    exact q
  ·exact absurd c (by omega)
theorem Km(a b:Int):aN (lu a b).1:=by
 unfold lu;split
 ·exact⟨by decide,by decide⟩
 ·exact pG _
def mN (X:SpV) (k:Tx) (t y:Int):SpV×Int×Int:=if cX X k≠0 then(X,0,cX X k)else match X.K k with
 |none=>(X,0,5)
 |some e=>if t<0∨1099511627776<=t then(X,0,1)else if 0<(e.L.length:Int)/\t<tAt e.L (e.L.length-1)then(X,0,7)
  else if(lu (vAt e.L (e.L.length-1)) y).2≠0 then(X,0,(lu (vAt e.L (e.L.length-1)) y).2)
  else if(gW X k t (lu (vAt e.L (e.L.length-1)) y).1 3).2≠0 then((gW X k t (lu (vAt e.L (e.L.length-1)) y).1 3).1,0,(gW X k t (lu (vAt e.L (e.L.length-1)) y).1 3).2)
  else((gW X k t (lu (vAt e.L (e.L.length-1)) y).1 3).1,(lu (vAt e.L (e.L.length-1)) y).1,0)
def Ia(X:SpV)(cs:List AV)(a:SpV)(u:AV):Prop:=∃k t y Y,cs=[.ss k,.si .i64 t,.si .i64 y]/\Links X/\Bnd X 20000/\mN X k t y=Y/\a=Y.1/\u= .tup [.si .i64 Y.2.1,.si .i64 Y.2.2]
def WA:FuncId->EP:=bb 19 [] (aq 61 (iC 5 SpB QA) (aq 32 (iC 5 SpB pJ) (aq 18 (mJ Qg) (aq 23 (cQ UF) evP))))
theorem QQ:aU WA:=au (ag (ag (ag (ag az Wz) Wq) QF) A8) (by kernel_rfl) (by kernel_rfl)
theorem FU(X:SpV)(k:Tx)(t y:Int)(c:SpC)(Q:bE X c)(F:Links X)(z:Bnd X 20000){Y:SpV×Int×Int}(a:mN X k t y=Y):ax WA 6 19 [.ptr 0 0,.ss k,.si .i64 t,.si .i64 y] (mkH (bH (spO c) 0)) 5 (gi SpB Y.1 (.tup [.si .i64 Y.2.1,.si .i64 Y.2.2])):=by
 obtain⟨G,I,J⟩:=Y
 conv=>whnf
 refine⟨X,[.ss k],X,_,_,c,rfl,by decide,.cons .same .nil,Q,tq rfl rfl rfl rfl rfl,⟨k,rfl,rfl,rfl⟩,λv b=>?_⟩
 conv=>whnf
 refine ae.c6 (λh=>?_) (λh=>?_)
 focus
  unfold mN at a;rw[if_pos h]at a;injection a with e1 e2;injection e2 with e2 e3;subst e1 e2 e3
  conv=>whnf
  exact⟨_,v,.told rfl,b,bK rfl rfl rfl rfl rfl⟩
 have h:cX X k=0:=h;unfold mN at a;rw[if_neg (by rw[h];exact λq=>q rfl)]at a
 have R:(X.K k).isSome=true:=by
  unfold cX at h;by_cases q:(X.K k).isSome=true
  ·exact q
  ·rw[if_neg q]at h;cases h
 obtain⟨e,A⟩:=q0l.1 R;rw[A]at a;dsimp only at a;obtain⟨T,U,V,Z,a1,u1,q1⟩:=b.at1 A;have hL:=z k e A;obtain⟨lt,p⟩:∃lt,lt=tAt e.L (e.L.length-1):=⟨_,rfl⟩;obtain⟨o,r⟩:∃o,o=vAt e.L (e.L.length-1):=⟨_,rfl⟩;have i:rM e.L= .tup [.agg [.si .i64 lt,.si .i64 o],.sb (decide ((0:Int)<(e.L.length:Int)))]:=by rw[p,r];rfl
 rw[<-p,<-r]at a;obtain⟨P,w⟩:∃P,P=lu o y:=⟨_,rfl⟩;have d:aN P.1:=by rw[w];exact Km _ _
 rw[<-w]at a;obtain⟨s,P2⟩:=P;dsimp only at a d;obtain⟨W,B⟩:∃W,W=gW X k t s 3:=⟨_,rfl⟩;rw[<-B]at a;obtain⟨M,N⟩:=W;dsimp only at a;have fin:∀{u H n O},bE G O->mkT u=mkT (.tup [.si .i64 I,.si .i64 J])->x0 H 5 (spO O) 0->gi SpB G (.tup [.si .i64 I,.si .i64 J]) u H n:=λh1 h2 h3=>⟨_,_,.told h2,h1,h3⟩
 conv=>whnf
 refine Ask.mk _ (aZ (m:=v.m) (g:=gE) (k:=k) bQ nX rfl rfl rfl pM Z) ?_
 conv=>whnf
 refine⟨4,aM U,aM V,T,e.S,e.L,_,rfl,by decide,by decide,rfl,congrArg (λx=>some (AO.sep (aF x))) q1,⟨rfl,i.symm⟩,?_⟩
 conv=>whnf
 refine ae.dec (λz2=>?_) (λz2=>?_)
 focus
  rw[if_pos (.inl z2)]at a;injection a with e1 e2;injection e2 with e2 e3;subst e1 e2 e3
  conv=>whnf
  exact fin b rfl (bK rfl rfl rfl rfl rfl)
 conv=>whnf
 refine ae.dec (λC=>?_) (λC=>?_)
 focus
  rw[if_pos (.inr C)]at a;injection a with e1 e2;injection e2 with e2 e3;subst e1 e2 e3
  conv=>whnf
  exact fin b rfl (bK rfl rfl rfl rfl rfl)
 rw[if_neg (λq=>q.elim z2 C)]at a
 conv=>whnf
 refine ae.dec (λD=>?_) (λD=>?_)
 focus
  conv=>whnf
  refine ae.dec (λE=>?_) (λE=>?_)
  focus
   rw[if_pos ⟨D,E⟩]at a;injection a with e1 e2;injection e2 with e2 e3;subst e1 e2 e3
   conv=>whnf
   exact fin b rfl (bK rfl rfl rfl rfl rfl)
  rw[if_neg (λq=>E q.2)]at a
  conv=>whnf
  refine⟨_,_,_,.cons .same (.cons .same .nil),⟨o,y,rfl,by rw[<-w]⟩,?_⟩
  conv=>whnf
  refine ae.c6 (λj=>?_) (λj=>?_)
  focus
   rw[if_pos j]at a;injection a with e1 e2;injection e2 with e2 e3;subst e1 e2 e3
   conv=>whnf
   exact fin b rfl (bK rfl rfl rfl rfl rfl)
  rw[if_neg (λq=>q j)]at a
  conv=>whnf
  refine⟨X,[.ss k,.agg [.si .i64 t,.si .i64 s],.si .i64 3],M,.si .i64 N,_,v,rfl,by decide,.cons .same (.cons .same (.cons (.told rfl) .nil)),b,tq rfl rfl rfl rfl rfl,⟨k,t,s,3,_,rfl,d,F,z,B.symm,rfl,rfl⟩,λc2 f=>?_⟩
  conv=>whnf
  refine ae.c6 (λl=>?_) (λl=>?_)
  focus
   rw[if_pos l]at a;injection a with e1 e2;injection e2 with e2 e3;subst e1 e2 e3
   conv=>whnf
   exact fin f rfl (bK rfl rfl rfl rfl rfl)
  rw[if_neg (λq=>q l)]at a;injection a with e1 e2;injection e2 with e2 e3;subst e1 e2 e3
  conv=>whnf
  exact fin f rfl (bK rfl rfl rfl rfl rfl)
 rw[if_neg (λq=>D q.1)]at a
 conv=>whnf
 refine⟨_,_,_,.cons .same (.cons .same .nil),⟨o,y,rfl,by rw[<-w]⟩,?_⟩
 conv=>whnf
 refine ae.c6 (λj=>?_) (λj=>?_)
 focus
  rw[if_pos j]at a;injection a with e1 e2;injection e2 with e2 e3;subst e1 e2 e3
  conv=>whnf
  exact fin b rfl (bK rfl rfl rfl rfl rfl)
 rw[if_neg (λq=>q j)]at a
 conv=>whnf
 refine⟨X,[.ss k,.agg [.si .i64 t,.si .i64 s],.si .i64 3],M,.si .i64 N,_,v,rfl,by decide,.cons .same (.cons .same (.cons (.told rfl) .nil)),b,tq rfl rfl rfl rfl rfl,⟨k,t,s,3,_,rfl,d,F,z,B.symm,rfl,rfl⟩,λc2 f=>?_⟩
 conv=>whnf
 refine ae.c6 (λl=>?_) (λl=>?_)
 focus
  rw[if_pos l]at a;injection a with e1 e2;injection e2 with e2 e3;subst e1 e2 e3
  conv=>whnf
  exact fin f rfl (bK rfl rfl rfl rfl rfl)
 rw[if_neg (λq=>q l)]at a;injection a with e1 e2;injection e2 with e2 e3;subst e1 e2 e3
 conv=>whnf
 exact fin f rfl (bK rfl rfl rfl rfl rfl)
theorem xF:ai 19 (cM 5 SpB Ia):=gj QQ 6 (by kernel_rfl) SpB rfl (by decide) λX cs i u ⟨k,t,y,Y,a,b,d,e,f,g⟩=>by
 subst a f g;exact⟨rfl,rfl,λc h=>FU X k t y c h b d e⟩
def R8(f g:List AV->AH->Nat->PK->Prop)(args:List AV)(H:AH)(n:Nat)(κ:PK):Prop:=f args H n κ∨g args H n κ
theorem ai.or{f:FuncId}{r s:List AV->AH->Nat->PK->Prop}(b:ai f r)(c:ai f s):ai f (R8 r s):=λargs H n a d=>d.elim (b args H n a) (c args H n a)
def WB(cs:List AV)(v:AV):Prop:=cs=[.nil]/\v= .nil
theorem QR:ai 58 (cQ WB):=yZ (ay Hq 4 _) (by kernel_rfl) λcs v ⟨a,b⟩=>by
 subst a b;refine⟨rfl,rfl,?_⟩
 conv=>whnf
 exact dA.told rfl
theorem UG{H:AH}{n j:Nat}{c:SpC}{Q:HP}{u v:AV}(t:5<=j)(i:H.get 0=some (.cells [.map 1,aK c.px,aK c.pg] true))(l:H.get 1=some (c.m.O kT gE))(o:H.get 2=some (.sep (IxB.Q c.x c.px)))(p:H.get 3=some (.sep (GrB.Q c.g c.pg)))(q:H.get 4=some (.sep (aF (aM c.m.A))))(r:H.get j=some (.sep Q))(s:ah H 6 (λb=>if b=5 then j else b) u v):Cov 5 (mkE [(0,u)]) H n (mkE [(0,v)],mkH (bH (spO c++ [.sep Q]) 0),6):=by
 have f:∀b,b<5->(if b=5 then j else b)=b:=λb d=>if_neg (by omega)
 refine Cov.ofR (λb=>if b=5 then j else b) (by decide) f (λx a=>?_) (λx a=>?_) (λx a y h e=>?_)
 ·simp only[Z4,Z5,or_false]at a;subst a;exact s
 ·simp only[bH,spO,q1s,q2i,Z4,Z5,or_false]at a;rcases a with rfl|rfl|rfl|rfl|rfl|rfl
  ·exact⟨Z0 rfl,.inl ⟨_,i,ao.b7 (k:=2) rfl (by decide) (λb d=>f b (by omega))⟩⟩
  ·exact⟨Z0 rfl,.inl ⟨_,l,ao.b7 (k:=0) (bl dQ uh) (by decide) (λb d=>absurd d (q0f b))⟩⟩
  ·exact⟨Z0 rfl,.inl ⟨_,o,ao.sep _⟩⟩
  ·exact⟨Z0 rfl,.inl ⟨_,p,ao.sep _⟩⟩
  ·exact⟨Z0 rfl,.inl ⟨_,q,ao.sep _⟩⟩
  ·exact⟨Z0 rfl,.inl ⟨_,r,ao.sep _⟩⟩
 ·simp only[bH,spO,q1s,q2i,Z4,Z5,or_false]at a h;rcases a with rfl|rfl|rfl|rfl|rfl|rfl<;>rcases h with rfl|rfl|rfl|rfl|rfl|rfl<;>simp at e⊢<;>omega
theorem QS{X:SpV}{c:SpC}{u v:AV}{H:AH}{n:Nat}{P:AV->List AO->Prop}(m:P v [])(l:ga v=true)(h:gi SpB X v u H n):TY SpB 5 X P u H n:=by
 obtain⟨K,p,s,w,x⟩:=h;refine⟨v,[],p,m,w,(iT (r:=λb=>b) l).2,λo ho=>(by cases ho),by decide,?_⟩;rw[q0w];intro A B C D E F;obtain⟨G,f,g,i⟩:=s A B C (D 0) E (F 0 u rfl);obtain⟨j,d,k⟩:=AY g x (by rw[SpB.len];exact Z3 _);refine⟨j,⟨λy q I e=>d.1 y q I (f.b y q e),λq e=>d.2.1 q (f.z q e),λq e=>f.y q (d.2.2 q e)⟩,k,λt a J=>?_⟩;have:=nk J;simp only[Z4,Z5,or_false]at this;injection this with e1 e2;subst e1 e2;exact nz d.2.1 l i
def XR(o:Option fy)(v:AV)(E:List AO):Prop:=match o with
 |none=>v= .nil/\E=[]
 |some e=>∃p,v=aK p/\E=[.sep (cL p e.S e.L)]
def WC(X:SpV)(cs:List AV)(a:SpV)(P:AV->List AO->Prop):Prop:=∃k,cs=[.ss k]/\a=X/\P=XR (X.K k)
def XS:FuncId->EP:=bb 16 [] (aq 58 (R8 (cQ WB) NZ) evP)
theorem QT:aU XS:=au (ag az (QR.or N0)) (by kernel_rfl) (by kernel_rfl)
theorem FV:ai 16 (Nv 5 SpB WC):=Nw (ay QT 5 _) (by kernel_rfl) SpB rfl (by decide) λX cs h P ⟨k,i,l,n⟩=>by
 subst i l n;refine⟨rfl,λc a=>?_⟩;cases f:h.K k with
 |none=>
  have b:=a.no1 f
  conv=>whnf
  refine Ask.mk _ (aZ (m:=c.m) (g:=gE) (k:=k) bQ nX rfl rfl rfl pM b) ?_
  conv=>whnf
  refine .inl ⟨_,_,_,.cons .same .nil,⟨rfl,rfl⟩,?_⟩
  conv=>whnf
  exact QS (c:=c) (v:= .nil) ⟨rfl,rfl⟩ rfl ⟨_,c,.told rfl,a,bK rfl rfl rfl rfl rfl⟩
 |some e=>
  obtain⟨p,q,r,b,t,u,s⟩:=a.at1 f
  conv=>whnf
  refine Ask.mk _ (aZ (m:=c.m) (g:=gE) (k:=k) bQ nX rfl rfl rfl pM b) ?_
  conv=>whnf
  refine .inr ⟨4,aM q,aM r,p,e.S,e.L,rfl,by decide,by decide,rfl,congrArg (λx=>some (AO.sep (aF x))) s,λd=>?_⟩
  conv=>whnf
  refine⟨aK d,[.sep (cL d e.S e.L)],c,⟨d,rfl,rfl⟩,a,rfl,λo ho=>?_,Z0 rfl,UG (j:=6) (by decide) rfl rfl rfl rfl rfl rfl (ah.aK rfl)⟩;simp only[Z4,Z5,or_false]at ho;subst ho;exact⟨rfl,rfl⟩
def WD(o:Option fy):AV:=match o with
 |none=> .tup [.agg [.int .i64 0,.int .i64 0,.int .i64 0,.nsl],.sb false]
 |some e=> .tup [FO e.z e.S.ret e.S.pol e.lab,.sb true]
def WE(X:SpV)(cs:List AV)(v:AV):Prop:=∃k,cs=[.ss k]/\v=WD (X.K k)
def QU:DT:=[(4,[(some 0,[6]),(some 0,[25]),(some 0,[6]),(some 0,[27]),(none,[28]),(some 1,[6]),(some 2,[30]),(none,[31]),(some 4,[0]),(some 5,[33]),(some 6,[34]),(some 7,[35]),(some 8,[1]),(none,[36,37]),(some 0,[26,29,32,38]),(none,[4,39])])]
def XT:FuncId->EP:=bb 35 QU (cf 84 (dO 4 IxB J1) (cf 87 (dO 4 IxB Wb) (cf 85 (mJ TM) (cf 86 (mJ TN) evP))))
theorem QV:aU XT:=au (aO (aO (aO (aO az Wp (A9 _)) Wo (A9 _)) Qq (Fs _ _ _)) rW (Fs _ _ _)) (by kernel_rfl) (by kernel_rfl)
theorem DV:ai 35 (dO 5 SpB WE):=(gj QV 5 (by kernel_rfl) SpB rfl (by decide) λX cs f v ⟨n,k,o,p⟩=>by
 subst n o p;refine⟨rfl,by cases f.K k<;>rfl,λc a=>?_⟩;have b:=a.has k;have hi:=a.I k;cases d:f.K k with
 |none=>
  rw[d]at b
  conv=>whnf
  refine⟨2,c.px,c.x,[.ss k],.sb false,rfl,by decide,by decide,.cons .same .nil,rfl,rfl,⟨k,rfl,congrArg AV.sb b.symm⟩,?_⟩
  conv=>whnf
  refine ae.nsb (λz=>?_) (λz=>?_)
  focus
   conv=>whnf
   exact⟨_,c,.told rfl,a,bK rfl rfl rfl rfl rfl⟩
  cases z
 |some e=>
  rw[d]at b hi;obtain⟨h,i,j,q,r,s,l⟩:=a.at1 d
  conv=>whnf
  refine⟨2,c.px,c.x,[.ss k],.sb true,rfl,by decide,by decide,.cons .same .nil,rfl,rfl,⟨k,rfl,congrArg AV.sb b.symm⟩,?_⟩
  conv=>whnf
  refine ae.nsb (λz=>?_) (λz=>?_)
  focus
   cases z
  conv=>whnf
  refine Ask.mk _ (aZ (m:=c.m) (g:=gE) (k:=k) bQ nX rfl rfl rfl pM q) ?_
  conv=>whnf
  refine⟨4,aM i,aM j,h,e.S,e.L,_,rfl,by decide,by decide,rfl,congrArg (λx=>some (AO.sep (aF x))) l,⟨rfl,rfl⟩,?_⟩
  conv=>whnf
  refine⟨4,aM i,aM j,h,e.S,e.L,_,rfl,by decide,by decide,rfl,congrArg (λx=>some (AO.sep (aF x))) l,⟨rfl,rfl⟩,?_⟩
  conv=>whnf
  refine⟨2,c.px,c.x,[.ss k],gL e.lab,rfl,by decide,by decide,.cons .same .nil,rfl,rfl,⟨k,rfl,by rw[hi];rfl⟩,?_⟩
  conv=>whnf
  exact⟨_,c,.told rfl,a,bK rfl rfl rfl rfl rfl⟩).ol
theorem Cov.hole{p n:Nat}{σ:AE}{H:AH}{s:AE×AH×Nat}(h:Cov p σ (H.set (some (.sep .emp)) aa n) (n+1) s):Cov p σ H n s:=λx f g i j k=>by
 obtain⟨m,l,c⟩:=j.hole;obtain⟨o,d,r,u⟩:=h m f g i c (λt a v=>VR.mono l _ _ (k t a v));exact⟨o,⟨λb q w e=>d.1 b q w (l.b b q e),λq e=>d.2.1 q (l.z q e),λq e=>l.y q (d.2.2 q e)⟩,r,u⟩
def lp:SpV:=⟨λ_=>none,λ_=>none,0⟩
theorem QW(px pg:Nat×Nat):bE lp ⟨MpC.no,⟨[],0⟩,px,[],pg⟩:=⟨MpC.DD,.nil,.nil,by decide,Z3 _,Z3 _,Z3 _,Z3 _,λ_=>rfl,λ_=>rfl,λ_=>rfl,λ_ h=>(by cases h),λ_ _ h=>(by cases h),λ_ _ h=>(by cases h),λ_ _ h=>(by cases h)⟩
def XU:FuncId->EP:=bb 9 [] (aq 51 (uc 4 IxB λcs y=>cs=[]/\y=⟨[],0⟩) (aq 52 (uc 2 GrB λcs y=>cs=[]/\y=[]) evP))
theorem QX:aU XU:=au (ag (ag az Qy) Qt) (by kernel_rfl) (by kernel_rfl)
def WG(b:Nat):Nat:=if b=0 then 9 else if b=1 then 0 else if b=2 then 1 else if b=3 then 6 else if b=4 then 10 else b+100
theorem Ib:ai 9 (uc 5 SpB λcs y=>cs=[]/\y=lp):=Nx (ay QX 5 _) (by kernel_rfl) SpB rfl (by decide) λcs y ⟨h,j⟩=>by
 subst h j;refine⟨rfl,?_⟩
 conv=>whnf
 refine⟨[],⟨[],0⟩,_,by decide,.nil,rfl,⟨rfl,rfl⟩,λd=>?_⟩
 conv=>whnf
 refine⟨[],[],_,by decide,.nil,rfl,⟨rfl,rfl⟩,λf=>?_⟩
 conv=>whnf
 refine⟨⟨MpC.no,⟨[],0⟩,d,[],f⟩,QW d f,Cov.hole (Cov.ofR WG (X5 _) (λb k=>absurd k (q0f b)) (λx c=>?_) (λx c=>?_) (λx c y g e=>?_))⟩
 ·simp only[Z4,Z5,or_false]at c;subst c;exact .ptr (by decide) rfl
 ·simp only[bH,spO,SpB,Z4,Z5,or_false]at c;rcases c with rfl|rfl|rfl|rfl|rfl
  ·refine⟨Z0 rfl,.inl ⟨_,rfl,.cells (Z3 _) id λi l a=>?_⟩⟩
   match i,a with
   |0,a=>injection a with a;subst a;exact⟨_,rfl,.map (by decide) rfl⟩
   |1,a=>injection a with a;subst a;exact⟨_,rfl,.aK rfl⟩
   |2,a=>injection a with a;subst a;exact⟨_,rfl,.aK rfl⟩
   |i+3,a=>simp at a
  ·exact⟨Z0 rfl,.inl ⟨_,rfl,.ND⟩⟩
  ·exact⟨Z0 rfl,.inl ⟨_,rfl,ao.sep _⟩⟩
  ·exact⟨Z0 rfl,.inl ⟨_,rfl,ao.sep _⟩⟩
  ·exact⟨Z0 rfl,.inl ⟨_,rfl,ao.sep _⟩⟩
 ·simp only[bH,spO,SpB,Z4,Z5,or_false]at c g;rcases c with rfl|rfl|rfl|rfl|rfl<;>rcases g with rfl|rfl|rfl|rfl|rfl<;>simp[WG]at e⊢
theorem Re.LV{H d:AH}{n:Nat}{a f c g:AV}(h:Re H n a d f)(e:mkT c=mkT g):Re H n (.tup [a,c]) d (.tup [f,g]):=λi j k w m o=>by
 obtain⟨cs,rfl,p⟩:=o.eH;obtain⟨x,y,rfl,q,r⟩:=vs2 p;obtain⟨s,l,b,t⟩:=h i j k x m q;exact⟨s,l,b,.tup (.cons t (.cons (VR.mono l _ _ (Hu (e▸r.mkT))) .nil))⟩
theorem Re.slK{H:AH}{n b m c k:Nat}{l s:List AV}{z:Bool}(e:k≠0)(u:m<=c)(f:H.get b=some (.cells l z))(g:s.all flat.flat1=true)(a:s.length=m*k)(d:l.map mk=s.map mk):Re H n (.sl b 0 m c k) (H.set none aa b) (.fr m k s):=λi j h w o q=>by
 refine Re.row (x:=0) f g a d (by decide) i j h w o ?_;obtain⟨p,C,r,rfl,v,t⟩:=q.eQ;obtain⟨y,A⟩:=t e;exact .rw r (λ_=>rfl) (q0j _ _) (by omega) (by omega)
def Oe:AV:= .agg [.int .i64 0,.int .i64 100,.bool false,.int .i64 0,.int .i64 0,.int .i64 0,.int .i64 0,.bool false,.nsl,.bool false,.int .i64 0,.int .i64 0]
def few(L:Smp):Prop:=L=[]∨∃t x,L=[(t,x)]/\0<=t/\t<=100
def WH(cs:List AV)(v:AV):Prop:=∃L,few L/\cs=[.fr L.length 2 (smp L),Oe]/\v= .tup [.fr L.length 2 (smp L),.si .i64 0]
def kTl:FuncId->EP:=bb 103 [] evP
theorem UH:aU kTl:=au az (by kernel_rfl) (by kernel_rfl)
theorem QY:ai 103 (cQ WH):=yZ (ay UH 4 _) (by kernel_rfl) λcs v ⟨L,a,d,e⟩=>by
 subst d e;refine⟨rfl,rfl,?_⟩;rcases a with rfl|⟨t,x,rfl,f,g⟩
 ·conv=>whnf
  refine aR.roll 1 ?_
  conv=>whnf
  refine ae.dec (λz=>absurd z (by decide)) (λz=>?_)
  conv=>whnf
  exact⟨_,.LV .nsl rfl⟩
 ·conv=>whnf
  refine aR.roll 2 ?_
  conv=>whnf
  refine ae.dec (λz=>?_) (λz=>absurd (show(0:Int)<((1:Nat):Int) by decide) z)
  conv=>whnf
  refine Idx.mk 0 rfl Nat.zero_lt_one ?_
  conv=>whnf
  refine ae.dec (λz=>absurd z (by show¬t<0;omega)) (λz=>?_)
  conv=>whnf
  refine ae.dec (λz=>absurd z (by show¬100<t;omega)) (λz=>?_)
  conv=>whnf
  refine aR.roll 1 ?_
  conv=>whnf
  refine ae.dec (λz=>absurd (show IntKind.i64.wrap (0+1)<((1:Nat):Int) from z) (by rw[al (by decide) (by decide)];decide)) (λz=>?_)
  conv=>whnf
  refine⟨_,.LV (Re.slK (b:=6) (m:=1) (c:=1) (k:=2) (z:=true) (l:=[.si .i64 t,.si .i64 x]) (s:=smp [(t,x)]) (by decide) (by decide) ?_ rfl rfl rfl) rfl⟩;exact rfl
def q0:AV:= .agg [.int .i64 0,.int .i64 0,.bool false,.int .i64 0,.int .i64 0,.int .i64 0,.int .i64 0,.bool false,.nsl,.bool false,.int .i64 0,.int .i64 0]
def DW(X:SpV)(cs:List AV)(v:AV):Prop:=∃k,(cs=[.ss k,q0]/\X.K k=none/\v= .tup [.nsl,.si .i64 5])∨∃e,cs=[.ss k,Oe]/\X.K k=some e/\few (ba 0 1099511627776 e.L)/\v= .tup [.fr (ba 0 1099511627776 e.L).length 2 (smp (ba 0 1099511627776 e.L)),.si .i64 0]
def XV:FuncId->EP:=bb 45 [(5,[(some 1000000,[7,8]),(none,[0,1,2,3,4,5,6,7,8,9,10,11,12,13]),(none,[0,1,2,3,4,5,6,8,7,9,10,11,12,13])])] (aq 84 (dO 4 IxB J1) (cf 21 (uj Dm) (aq 103 (cQ WH) evP)))
theorem QZ:aU XV:=au (ag (aO (ag az QY) Ob (FQ _)) rW) (by kernel_rfl) (by kernel_rfl)
theorem Of:ai 45 (dO 5 SpB DW):=(gj QZ 5 (by kernel_rfl) SpB rfl (by decide) λX cs s v ⟨j,k,h⟩=>by
 subst j;rcases h with⟨f,d,i⟩|⟨e,f,d,l,i⟩
 ·subst f i;refine⟨rfl,rfl,λc a=>?_⟩;have b:=a.has k;rw[d]at b
  conv=>whnf
  refine⟨2,c.px,c.x,[.ss k],.sb false,rfl,by decide,by decide,.cons .same .nil,rfl,rfl,⟨k,rfl,congrArg AV.sb b.symm⟩,?_⟩
  conv=>whnf
  refine ae.nsb (λz=>?_) (λz=>?_)
  focus
   conv=>whnf
   exact⟨_,c,.told rfl,a,bK rfl rfl rfl rfl rfl⟩
  cases z
 ·subst f i;refine⟨rfl,rfl,λc a=>?_⟩;have b:=a.has k;rw[d]at b;obtain⟨n,o,p,q,t,u,r⟩:=a.at1 d
  conv=>whnf
  refine⟨2,c.px,c.x,[.ss k],.sb true,rfl,by decide,by decide,.cons .same .nil,rfl,rfl,⟨k,rfl,congrArg AV.sb b.symm⟩,?_⟩
  conv=>whnf
  refine ae.nsb (λz=>?_) (λz=>?_)
  focus
   cases z
  conv=>whnf
  refine⟨?_,?_,trivial⟩
  all_goals
   conv=>whnf
   refine Ask.mk _ (aZ (m:=c.m) (g:=gE) (k:=k) bQ nX rfl rfl rfl pM q) ?_
   conv=>whnf
   refine⟨4,aM o,aM p,n,e.S,e.L,ba 0 1099511627776 e.L,rfl,by decide,by decide,rfl,congrArg (λx=>some (AO.sep (aF x))) r,⟨_,_,0,1099511627776,rfl,rfl,rfl,rfl⟩,?_⟩
   conv=>whnf
   refine⟨_,_,_,.cons .same (.cons .same .nil),⟨_,l,rfl,rfl⟩,?_⟩
   conv=>whnf
   exact⟨_,c,.told rfl,a,bK rfl rfl rfl rfl rfl⟩).ol
def WI(cs:List AV)(v:AV):Prop:=∃V W,cs=[.fr V.length 1 (strs V),.fr W.length 1 (strs W)]/\V.length<=1000000/\v= .sb (decide (V=W))
def WJ:FuncId->EP:=bb 30 [] evP
theorem Q0:aU WJ:=au az (by kernel_rfl) (by kernel_rfl)
def smT (V:List (List Nat)) (W:List (List Nat)) (i:Nat):AE×AH:=(mkE [(0,.fr V.length 1 (strs V)),(1,.fr W.length 1 (strs W)),(5,.si .i64 (i))],mkH [])
theorem Ic{V:List (List Nat)}{W:List (List Nat)}{i:Nat}{p n:Nat}{σ:AE}{H:AH}(a:p<=0)(b:aj (pa 0) σ= .fr V.length 1 (strs V))(c:aj (pa 1) σ= .fr W.length 1 (strs W))(d:mk (aj (pa 5) σ)= .si .i64 (i)):Cov p σ H n ((smT V W i).1,(smT V W i).2,0):=
 Cov.ofA a ⟨ah.frE b,ah.frE c,.int d,trivial⟩ trivial rfl
theorem Q1(V W:List Tx)(r:V.length<=1000000):ax WJ 3 30 [.fr V.length 1 (strs V),.fr W.length 1 (strs W)] .nil 0 (dA (.sb (decide (V=W)))):=by
 conv=>whnf
 refine ae.c6 (λd=>?_) (λd=>?_)
 ·have o:decide (V=W)=false:=decide_eq_false λe=>d (by subst e;rfl)
  rw[o]
  conv=>whnf
  exact dA.told rfl
 ·have m:V.length=W.length:=q3r.1 d
  conv=>whnf
  refine aR.mk {i:Nat//i<=V.length/\V.take i=W.take i} 0 (λi=>smT V W i.val) (λi=>V.length-i.val) ⟨0,X5 _,rfl⟩ ?_ ?_
  ·exact Ic (i:=0) (Z3 0) rfl rfl rfl
  ·intro⟨i,s,f⟩
   conv=>whnf
   refine ae.dec (λg=>?_) (λg=>?_)
   ·have a:i<V.length:=q0o.1 g;have b:i<W.length:=m▸a;have j:V.length-(i+1)<V.length-i:=by omega
    have p:IntKind.i64.wrap ((i:Int)+1)=((i+1:Nat):Int):=by rw[al (by omega) (by omega)];omega
    have k:V[i]=W[i]->V.take (i+1)=W.take (i+1):=λe=>by rw[X8 a,X8 b,f,e]
    have l:¬V[i]=W[i]->decide (V=W)=false:=λq=>decide_eq_false λe=>q (by subst e;rfl)
    conv=>whnf
    refine Idx.mk i rfl a ?_
    conv=>whnf
    refine aw (gm a (q0i _)) ?_
    conv=>whnf
    refine Idx.mk i rfl b ?_
    conv=>whnf
    refine aw (gm b (q0i _)) ?_
    conv=>whnf
    refine ae.nsb (λc=>?_) (λc=>?_)
    ·have:=l λe=>by rw[bj.2 e]at c;cases c
     conv=>whnf
     exact⟨_,.told (congrArg AV.sb this.symm)⟩
    ·have:=k (bj.1 c)
     conv=>whnf
     exact⟨⟨i+1,a,this⟩,j,Ic (Z3 0) rfl rfl (congrArg (AV.si .i64) p)⟩
   ·have a:i=V.length:=by have:¬(i:Int)<(V.length:Int):=g;omega
    have b:decide (V=W)=true:=decide_eq_true (by rw[a,q0e,m,q0e]at f;exact f)
    conv=>whnf
    exact⟨_,.told (congrArg AV.sb b.symm)⟩
theorem XW:ai 30 (cQ WI):=oQ Q0 3 (by kernel_rfl) λcs v ⟨V,W,a,b,c⟩=>by
 subst a c;exact⟨rfl,rfl,Q1 V W b⟩
section
variable {φ:Ph} {H H2:AH} {n:Nat} {h0 h:Hp}
theorem HR.Q6(w:HR φ H n h0 h){c b i m k:Nat}{lc l s:List AV}{zc z:Bool}(x:H.get c=some (.cells lc zc))(hi:lc[i]?=some (.sl b 0 m m 0))(C:H.get b=some (.cells l z))(f:c≠b)(D:b<1000000)(E:s.all flat.flat1=true)(g:s.length=m*k)(o:l.map Go.Proofs.YtflehenfikoniaaGreat.mk=s.map Go.Proofs.YtflehenfikoniaaGreat.mk):
 ∃χ,PLe φ χ/\HR χ ((H.set none aa b).set (some (.cells (lc.set i (.fr m k s)) zc)) aa c) n h0 h:=by
 have a:=(X6.1 hi).1;rcases w.live c _ x with⟨_,F⟩|⟨p,Z,G,h2,I,J⟩
 ·cases lc with
  |nil=>cases a
  |cons _ _=>cases F
 obtain⟨cc,t,fz,rfl,o1,o2,o3,o4,K⟩:=J;obtain⟨y,L,M⟩:=K i _ hi;obtain⟨χ,A,N,O⟩:=Re.sl C E g o φ h0 h y w M;have r:(H.set none aa b).get c=some (.cells lc zc):=PM.gne (by omega) f x
 refine⟨χ,A,N.RG r rfl rfl (λq=>by cases lc with
  |nil=>cases a
  |cons _ _=>cases q) λP Q R d ⟨u,S,v,B,T,U,V,W,X⟩=>⟨u,S,v,B,by rw[List.length_set];exact T,U,V,W,λj Y e=>?_⟩⟩
 have:P=p:=by have:=A.b c p G;rw[R]at this;injection this
 subst this;rw[I]at d;injection d with d;rw[B]at d;injection d with d;subst d;by_cases q:i=j
 ·subst q;rw[List.getElem?_set_self a]at e;injection e with e;subst e;exact⟨y,L,O⟩
 ·rw[List.getElem?_set_ne q]at e;exact X j Y e
theorem Cov.pre{p:Nat}{σ:AE}{s:AE×AH×Nat}(h:∀φ h0 h,HR φ H n h0 h->∃ψ,PLe φ ψ/\HR ψ H2 n h0 h)(g:Cov p σ H2 n s):Cov p σ H n s:=λφ h0 f i j k=>by
 obtain⟨ψ,l,c⟩:=h φ h0 f j;obtain⟨m,d,o,r⟩:=g ψ h0 f i c (λt a u=>VR.mono l _ _ (k t a u));exact⟨m,⟨λb q v e=>d.1 b q v (l.b b q e),λq e=>d.2.1 q (l.z q e),λq e=>l.y q (d.2.2 q e)⟩,o,r⟩
end
abbrev rK:Rl:=⟨[97],[98],1,10,0⟩
abbrev nG:List Lab:=[([120],[49])]
def stV(a b:fy)(q:Bool)(n:Nat):SpV:=⟨λx=>if x=[98]then some b else if x=[97]then some a else none,λd=>if d=[98]then(if q=true then some rK else none)else none,n⟩
section
variable {a b e:fy} {q:Bool} {n:Nat}
theorem R9:fJ (stV a b q n) [97] e=stV e b q n:=by
 unfold fJ stV;congr 1;funext x;by_cases h:x=[97]
 ·subst h;rfl
 ·(try simp only[if_neg h])
theorem Sa:fJ (stV a b q n) [98] e=stV a e q n:=by
 unfold fJ stV;congr 1;funext x;by_cases h:x=[98]
 ·subst h;rfl
 ·(try simp only[if_neg h])
theorem Sb{c:Bool}{m:Nat}:({pN (stV a b q n) [98] (if c=true then some rK else none)with n:=m}:SpV)=stV a b c m:=by
 have e:(λx=>if x=[98]then(if c=true then some rK else none)else(stV a b q n).R x)=(stV a b c m).R:=funext λx=>by
  unfold stV;by_cases h:x=[98]
  ·(try simp only[if_pos h])
  ·(try simp only[if_neg h])
 show(⟨(stV a b q n).K,(λx=>if x=[98]then(if c=true then some rK else none)else(stV a b q n).R x),m⟩:SpV)=_;rw[e];rfl
theorem zi(t:Int):cg (stV a b q n) rK t=stV a {b with S:=(gK rK t a b).1,L:=(gK rK t a b).2} q n:=Sa
def gV(q:Bool):Gr:=if q=true then [([98],rK)]else []
theorem Ie:((gV q).map Prod.fst).Nodup:=by cases q<;>simp[gV]
theorem Bj(k:Tx):aL (gV q) k=(stV a b q n).R k:=by
 cases q
 ·show aL [] k=_;unfold stV;by_cases h:k=[98]<;>simp[h,aL,gy]
 ·show aL [([98],rK)] k=_;unfold stV;by_cases h:k=[98]<;>simp[h,aL,gy]
theorem Sc(x:Tx):aH [x]=[x]:=th (bf _).1 (List.pairwise_singleton _ _) λy=>by rw[(bf _).2]
theorem Og:aH []=[]:=th (bf _).1 .nil λy=>by rw[(bf _).2]
theorem UI(k:Tx):ofX (stV a b q n) k=if q=true/\k=[97]then [rK]else []:=by
 have h:=mK (f:=(stV a b q n).R) (A:=gV q) Ie Bj;have e:ofX (stV a b q n) k=ofG (gV q) k:=Bd h.1 Ie (λd=>by rw[h.2,Bj (a:=a) (b:=b) (n:=n)]) (λr=>decide (r.src=k));rw[e];cases q
 ·show pkF [] _=_;unfold pkF;simp[Og]
 ·show pkF [([98],rK)] _=_;unfold pkF;by_cases c:k=[97]
  ·subst c;simp[Sc,pkS,rul,aL,gy]
  ·have:¬[97]=k:=λe=>c e.symm
   simp[c,this,Og]
theorem WK:uv (stV a b q n)=if q=true then [rK]else []:=by
 have h:=mK (f:=(stV a b q n).R) (A:=gV q) Ie Bj;have e:uv (stV a b q n)=NP (gV q):=Bd h.1 Ie (λd=>by rw[h.2,Bj (a:=a) (b:=b) (n:=n)]) (λ_=>true);rw[e];cases q
 ·show pkF [] _=_;unfold pkF;simp[Og]
 ·show pkF [([98],rK)] _=_;unfold pkF;simp[Sc,pkS,rul,aL,gy]
theorem UJ:zg (stV a b q n)=[[97],[98]]:=by
 have nd:(([([97],a),([98],b)]:List (Tx×fy)).map Prod.fst).Nodup:=by simp
 have j:∀k,aL ([([97],a),([98],b)]:List (Tx×fy)) k=(stV a b q n).K k:=λk=>by
  unfold stV;by_cases d:k=[98]
  ·subst d;rfl
  ·by_cases f:k=[97]
   ·subst f;rfl
   ·simp[d,f,aL,gy]
 have h:=mK nd j;refine th (bf _).1 ?_ λy=>?_
 ·refine .cons (λy c=>?_) (List.pairwise_singleton _ _);rw[q3h]at c;subst c;kernel_rfl
 ·show y∈aH _<->_;rw[(bf _).2];constructor
  ·intro c;obtain⟨⟨k,e⟩,d,rfl⟩:=q0m.1 c;rw[oX h.1,h.2]at d;unfold stV at d;by_cases g:k=[98]
   ·simp[g]
   ·by_cases i:k=[97]
    ·simp[i]
    ·simp[g,i]at d
  ·intro c
   have:∃e,(stV a b q n).K y=some e:=by
    simp only[Z4,Z5,or_false]at c;rcases c with rfl|rfl
    ·exact⟨a,rfl⟩
    ·exact⟨b,rfl⟩
   obtain⟨e,l⟩:=this;exact q0m.2 ⟨(y,e),cR (by rw[h.2];exact l),rfl⟩
theorem xG:Links (stV a b q n):=λd r h=>by
 unfold stV at h;dsimp only at h;split at h
 ·split at h
  ·injection h with h;subst h;rename_i c _;subst c;exact⟨rfl,rfl⟩
  ·cases h
 ·cases h
theorem Kn{m:Nat}(c:a.L.length<=m)(d:b.L.length<=m):Bnd (stV a b q n) m:=λk e h=>by
 unfold stV at h;dsimp only at h;split at h
 ·injection h with h;subst h;exact d
 ·split at h
  ·injection h with h;subst h;exact c
  ·cases h
end
abbrev sK(m:Int):Sr:=⟨128,0,1,m,0⟩
abbrev eK(m:Int)(L:Smp):fy:=⟨sK m,L,128,nG⟩
abbrev eZ:fy:=eK (-1) []
theorem Oh:(iE [97]&&dS nG)=true:=by kernel_rfl
theorem Q7:(iE [98]&&dS nG)=true:=by kernel_rfl
theorem Oi:cq nG=nG:=by kernel_rfl
theorem FX:pK 128 0 1=some (sK (-1)):=if_pos (by decide)
theorem WL:crF lp [97] 128 0 1 nG=(crK lp [97] eZ,0):=by
 unfold crF;rw[FX];dsimp only;rw[if_pos Oh,Oi];exact if_neg (by simp[lp])
theorem UK:crK (crK lp [97] eZ) [98] eZ=stV eZ eZ false 2:=by
 unfold crK stV lp;simp
theorem WM:crF (crK lp [97] eZ) [98] 128 0 1 nG=(stV eZ eZ false 2,0):=by
 rw[<-UK];unfold crF;rw[FX];dsimp only;rw[if_pos Q7,Oi];exact if_neg (by simp[lp,crK])
theorem WN:crF (stV eZ eZ false 2) [97] 128 0 1 nG=(stV eZ eZ false 2,6):=by
 unfold crF;rw[FX];dsimp only;rw[if_pos Oh];exact if_pos (by simp[stV])
theorem WO:cW rK=true:=by kernel_rfl
theorem WQ:rlF (stV eZ eZ false 2) rK=(stV eZ eZ true 3,0):=by
 unfold rlF;rw[if_pos WO,if_pos ⟨rfl,rfl⟩,if_neg (by simp[stV]),UI,if_neg (by simp[stV])];exact congrArg (·,0) (Sb (c:=true) (m:=3))
theorem WR:lkF (stV eZ eZ false 2) rK=(stV eZ eZ true 3,0):=by
 unfold lkF;rw[WQ,if_neg (by simp)];exact congrArg (·,0) Sa
theorem UL{a b:fy}{n:Nat}:cX (stV a b true n) [97]=0:=rfl
theorem WS{a b:fy}{n:Nat}:cX (stV a b true n) [98]=10:=rfl
theorem UM{a b:fy}{n:Nat}{t v p:Int}{S:Sr}{L:Smp}(h:fc a.S a.L t v p=((S,L),0)):gW (stV a b true n) [97] t v p=(di [97] a.S.mx t (stV {a with S:=S,L:=L} b true n) rK,0):=by
 unfold gW;rw[UL,if_neg (λq=>q rfl)];show(if(fc a.S a.L t v p).2≠0 then _ else _)=_;rw[h,if_neg (λq=>q rfl),UI,if_pos ⟨rfl,rfl⟩];unfold Kc;rw[h,R9];rfl
theorem WT:gW (stV eZ eZ true 3) [97] 1 5 0=(stV (eK 1 [(1,5)]) eZ true 3,0):=by
 rw[UM (S:=sK 1) (L:=[(1,5)]) (by kernel_rfl)];unfold di;rw[if_neg (by intro h;exact absurd h.1 (by decide)),zi];rfl
theorem WU:gW (stV (eK 1 [(1,5)]) eZ true 3) [97] 5 6 0=(stV (eK 5 [(1,5),(5,6)]) eZ true 3,0):=by
 rw[UM (S:=sK 5) (L:=[(1,5),(5,6)]) (by kernel_rfl)];unfold di;rw[if_pos ⟨by decide,by decide⟩,zi,zi];rfl
theorem XX:mN (stV (eK 5 [(1,5),(5,6)]) eZ true 3) [97] 12 1=(stV (eK 12 [(1,5),(5,6),(12,7)]) (eK 0 [(0,11)]) true 3,7,0):=by
 have e:gW (stV (eK 5 [(1,5),(5,6)]) eZ true 3) [97] 12 7 3=(stV (eK 12 [(1,5),(5,6),(12,7)]) (eK 0 [(0,11)]) true 3,0):=by
  rw[UM (S:=sK 12) (L:=[(1,5),(5,6),(12,7)]) (by kernel_rfl)];unfold di;rw[if_pos ⟨by decide,by decide⟩,zi,zi];have d:gK rK 5 (eK 12 [(1,5),(5,6),(12,7)]) eZ=(sK 0,[(0,11)]):=by kernel_rfl
  rw[d];have c:gK rK 12 (eK 12 [(1,5),(5,6),(12,7)]) (eK 0 [(0,11)])=(sK 0,[(0,11)]):=by kernel_rfl
  exact congrArg (λz:Sr×Smp=>((stV (eK 12 [(1,5),(5,6),(12,7)]) ⟨z.1,z.2,128,nG⟩ true 3,0):SpV×Int)) c
 unfold mN;rw[UL,if_neg (λq=>q rfl)];have c:lu (vAt [(1,5),(5,6)] (List.length [(1,5),((5,6):Int×Int)]-1)) 1=(7,0):=by kernel_rfl
 show(if(12:Int)<0∨1099511627776<=(12:Int)then _ else _)=_;rw[if_neg (by decide),if_neg (by decide),c,if_neg (λq=>q rfl),e,if_neg (λq=>q rfl)]
theorem WV:gW (stV (eK 12 [(1,5),(5,6),(12,7)]) (eK 0 [(0,11)]) true 3) [98] 1 5 0=(stV (eK 12 [(1,5),(5,6),(12,7)]) (eK 0 [(0,11)]) true 3,10):=by
 unfold gW;rw[WS];exact if_pos (by decide)
theorem XY:se (stV (eK 12 [(1,5),(5,6),(12,7)]) (eK 0 [(0,11)]) true 3) [97] 5 5=(stV (eK 12 [(1,5),(12,7)]) (eK 0 [(0,5)]) true 3,1,0):=by
 unfold se;rw[UL,if_neg (λq=>q rfl),UI,if_pos ⟨rfl,rfl⟩];show(dC (ba 5 5 [(1,5),(5,6),(12,7)]) (fJ (stV _ _ true 3) [97] _) rK,_,_)=_;rw[R9];have d:ba 5 5 [(1,5),(5,6),(12,7)]=[(5,6)]:=by kernel_rfl
 have f:aJ [(1,5),(5,6),(12,7)] 5 5=[(1,5),(12,7)]:=by kernel_rfl
 have c:bB rK 5=0:=by kernel_rfl
 have g:gK rK 0 (eK 12 [(1,5),(12,7)]) (eK 0 [(0,11)])=(sK 0,[(0,5)]):=by kernel_rfl
 show(dC (ba 5 5 [(1,5),(5,6),(12,7)]) (stV ⟨sK 12,aJ [(1,5),(5,6),(12,7)] 5 5,128,nG⟩ _ true 3) rK,(((List.length [(1,5),(5,6),((12,7):Int×Int)]-(aJ [(1,5),(5,6),(12,7)] 5 5).length:Nat):Int),(0:Int)))=_;rw[d,f];unfold dC sd;show((cI rK (-1,_) (5,6)).2,_)=_;unfold cI;rw[if_pos (by rw[c];decide)];show(cg (stV _ _ true 3) rK (bB rK 5),_,_)=_;rw[c,zi,g];rfl
theorem XZ:tw (stV (eK 12 [(1,5),(12,7)]) (eK 0 [(0,5)]) true 3) [97] [98]=(stV (eK 12 [(1,5),(12,7)]) (eK 0 [(0,5)]) false 3,0):=by
 unfold tw;show(if rK.src=[97]then _ else _)=_;rw[if_pos rfl];exact congrArg (·,0) (Sb (c:=false) (m:=3))
theorem WW:few (ba 0 1099511627776 []):= .inl rfl
theorem Sd:ba 0 1099511627776 [(0,11)]=[(0,11)]:=by kernel_rfl
theorem Se:ba 0 1099511627776 [(0,5)]=[(0,5)]:=by kernel_rfl
def Ig(args:List AV)(H:AH)(n:Nat)(κ:PK):Prop:=match args with
 |a::f=>∃b p X k c,a=aK p/\b<n/\n<800000/\Res H n f c [.ss k]/\c.get b=some (.sep (SpB.Q X p))/\iA c 5 n=true/\((X.K k=none/\κ .nil (c.set (some (.sep (SpB.Q X p))) aa b) (n+5))∨∃e,X.K k=some e/\∀d,κ (aK d) ((c.set (some (.sep (SpB.Q X p))) aa b).set (some (.sep (cL d e.S e.L))) aa (n+5)) (n+6))
 |_=>False
theorem Oj:ai 16 Ig:=λargs H n g c=>by
 unfold Ig at c;split at c
 ·obtain⟨b,p,X,k,h,i,j,l,m,o,q,a⟩:=c;refine FV _ H n g ⟨b,p,X,[.ss k],X,_,h,i,j,l,m,o,q,⟨k,rfl,rfl,rfl⟩,λv E d=>?_⟩;rcases a with⟨f,a⟩|⟨e,f,a⟩
  ·rw[f]at d;obtain⟨rfl,rfl⟩:=d;exact a
  ·rw[f]at d;obtain⟨r,rfl,rfl⟩:=d;exact a r
 ·exact c.elim
def WX:FuncId->EP:=aq 9 (uc 5 SpB λcs y=>cs=[]/\y=lp) (aq 46 (cM 5 SpB QJ) (aq 48 (cM 5 SpB UC) (aq 32 (cM 5 SpB pJ) (aq 45 (dO 5 SpB DW) (aq 19 (cM 5 SpB Ia) (aq 44 (cM 5 SpB Bi) (aq 35 (dO 5 SpB WE) (aq 49 (cM 5 SpB Ux) (aq 12 (dO 5 SpB Uw) (aq 25 (dO 5 SpB Ws) (aq 16 Ig (aq 57 (la RW) (aq 27 (cM 5 SpB QH) (aq 20 (wT 1000000 jQ) (aq 30 (cQ WI) evP)))))))))))))))
theorem Q8:aU WX:=ag (ag (ag (ag (ag (ag (ag (ag (ag (ag (ag (ag (ag (ag (ag (ag az XW) Hd) DP) TO) Oj) N7) zh) xC) DV) H9) xF) Of) HY) DS) xD) Ib
def WY:FuncId->EP:=bb 14 [(1000005,[])] WX
theorem Q9:aU WY:=au Q8 (by kernel_rfl) (by kernel_rfl)
theorem WZ:few (ba 0 1099511627776 [(0,11)]):=by rw[Sd];exact .inr ⟨0,11,rfl,by decide,by decide⟩
theorem W0:few (ba 0 1099511627776 [(0,5)]):=by rw[Se];exact .inr ⟨0,5,rfl,by decide,by decide⟩
theorem W3:AV.tup [.fr 1 2 (smp [(0,11)]),.si .i64 0]= .tup [.fr (ba 0 1099511627776 [(0,11)]).length 2 (smp (ba 0 1099511627776 [(0,11)])),.si .i64 0]:=by rw[Sd];rfl
theorem W4:AV.tup [.fr 1 2 (smp [(0,5)]),.si .i64 0]= .tup [.fr (ba 0 1099511627776 [(0,5)]).length 2 (smp (ba 0 1099511627776 [(0,5)])),.si .i64 0]:=by rw[Se];rfl
theorem W5:jQ [(0,11)] [(0,11)]=true:=by kernel_rfl
theorem W6:jQ [(0,5)] [(0,5)]=true:=by kernel_rfl
theorem Ih{X:SpV}{k:Tx}:(kz X k).K k=none:=by
 unfold kz;split
 ·exact if_pos rfl
 ·rename_i h;cases e:X.K k with
  |none=>rfl
  |some y=>rw[e]at h;exact absurd rfl h
theorem Ra{X:SpV}{k:Tx}(h:X.K k=none):kz X k=X:=by
 unfold kz;rw[h];rfl
theorem W7{X:SpV}{k:Tx}:kz X k=kz (kz X k) k:=(Ra Ih).symm
theorem W8{X:SpV}{k:Tx}:AV.sb false= .sb ((kz X k).K k).isSome:=by rw[Ih];rfl
def knO (w:Nat×Nat):AE×AH:=(mkE [(0,.sb (false)),(1,aK w),(2,.ptr 7 (0))],mkH [(0,.sep (SpB.Q lp w)),(7,.cells [.int .i64 128,.int .i64 0,.int .i64 1,.fr 1 2 (cG nG)] true)])
theorem Rb{w:Nat×Nat}{p n:Nat}{σ:AE}{H:AH}(a:p<=8)(b:mk (aj (pa 0) σ)= .sb (false))(c:aj (pa 1) σ=aK w)(d:aj (pa 2) σ= .ptr 7 (0))(e:H.get 0=some (.sep (SpB.Q lp w)))(f:H.get 7=some (.cells [.int .i64 128,.int .i64 0,.int .i64 1,.fr 1 2 (cG nG)] true)):Cov p σ H n ((knO w).1,(knO w).2,8):=
 Cov.ofA a ⟨.bool b,ah.aK c,.ptr (by decide) d,trivial⟩ ⟨.inl ⟨_,e,ao.sep _⟩,.inl ⟨_,f,ao.refl rfl⟩,trivial⟩ rfl
theorem Ko:ax WY 6 14 [] .nil 0 (λu _ _=>mkT u=AV.sb true):=by
 conv=>whnf
 refine⟨[],lp,_,by decide,.nil,rfl,⟨rfl,rfl⟩,λp=>?_⟩
 conv=>whnf
 refine yl.mk Unit 8 (λ_=>knO p) ?_ ?_
 focus
  conv=>whnf
  exact⟨(),Cov.pre (λe f h a=>a.Q6 (c:=7) (b:=6) (i:=3) (m:=1) (k:=2) (s:=cG nG) rfl rfl rfl (by decide) (by decide) rfl rfl rfl) (Rb (w:=p) (X5 8) rfl rfl rfl rfl rfl)⟩
 intro _
 conv=>whnf
 refine⟨0,p,lp,[.ss [97],FO 128 0 1 nG],(crK lp [97] eZ),.si .i64 0,_,rfl,by decide,by decide,.cons (.told rfl) (.cons (.agg rfl) .nil),rfl,rfl,⟨[97],128,0,1,nG,((crK lp [97] eZ),0),rfl,by decide,by decide,WL,rfl,rfl⟩,?_⟩
 conv=>whnf
 refine⟨0,p,(crK lp [97] eZ),[.ss [98],FO 128 0 1 nG],(stV (eZ) (eZ) false 2),.si .i64 0,_,rfl,by decide,by decide,.cons (.told rfl) (.cons (.agg rfl) .nil),rfl,rfl,⟨[98],128,0,1,nG,((stV (eZ) (eZ) false 2),0),rfl,by decide,by decide,WM,rfl,rfl⟩,?_⟩
 conv=>whnf
 refine⟨0,p,(stV (eZ) (eZ) false 2),[.ss [97],FO 128 0 1 nG],(stV (eZ) (eZ) false 2),.si .i64 6,_,rfl,by decide,by decide,.cons (.told rfl) (.cons (.agg rfl) .nil),rfl,rfl,⟨[97],128,0,1,nG,((stV (eZ) (eZ) false 2),6),rfl,by decide,by decide,WN,rfl,rfl⟩,?_⟩
 conv=>whnf
 refine⟨0,p,(stV (eZ) (eZ) false 2),[gR rK],(stV (eZ) (eZ) true 3),.si .i64 0,_,rfl,by decide,by decide,.cons (.agg rfl) .nil,rfl,rfl,⟨rK,((stV (eZ) (eZ) true 3),0),rfl,by decide,Kn (by decide) (by decide),WR,rfl,rfl⟩,?_⟩
 conv=>whnf
 refine⟨0,p,(stV (eZ) (eZ) true 3),[.ss [97],.agg [.si .i64 1,.si .i64 5],.si .i64 0],(stV (eK 1 [(1,5)]) (eZ) true 3),.si .i64 0,_,rfl,by decide,by decide,.cons (.told rfl) (.cons (.agg rfl) (.cons (.told rfl) .nil)),rfl,rfl,⟨[97],1,5,0,((stV (eK 1 [(1,5)]) (eZ) true 3),0),rfl,⟨by decide,by decide⟩,xG,Kn (by decide) (by decide),WT,rfl,rfl⟩,?_⟩
 conv=>whnf
 refine⟨0,p,(stV (eK 1 [(1,5)]) (eZ) true 3),[.ss [97],.agg [.si .i64 5,.si .i64 6],.si .i64 0],(stV (eK 5 [(1,5),(5,6)]) (eZ) true 3),.si .i64 0,_,rfl,by decide,by decide,.cons (.told rfl) (.cons (.agg rfl) (.cons (.told rfl) .nil)),rfl,rfl,⟨[97],5,6,0,((stV (eK 5 [(1,5),(5,6)]) (eZ) true 3),0),rfl,⟨by decide,by decide⟩,xG,Kn (by decide) (by decide),WU,rfl,rfl⟩,?_⟩
 conv=>whnf
 refine⟨0,p,(stV (eK 5 [(1,5),(5,6)]) (eZ) true 3),[.ss [98],Oe],.tup [.fr (List.length []) 2 (smp []),.si .i64 0],rfl,by decide,by decide,.cons (.told rfl) (.cons (.agg rfl) .nil),rfl,rfl,⟨[98],.inr ⟨eZ,rfl,rfl,WW,rfl⟩⟩,?_⟩
 conv=>whnf
 refine⟨0,p,(stV (eK 5 [(1,5),(5,6)]) (eZ) true 3),[.ss [97],.si .i64 12,.si .i64 1],(stV (eK 12 [(1,5),(5,6),(12,7)]) (eK 0 [(0,11)]) true 3),.tup [.si .i64 7,.si .i64 0],_,rfl,by decide,by decide,.cons (.told rfl) (.cons (.told rfl) (.cons (.told rfl) .nil)),rfl,rfl,⟨[97],12,1,((stV (eK 12 [(1,5),(5,6),(12,7)]) (eK 0 [(0,11)]) true 3),7,0),rfl,xG,Kn (by decide) (by decide),XX,rfl,rfl⟩,?_⟩
 conv=>whnf
 refine⟨0,p,(stV (eK 12 [(1,5),(5,6),(12,7)]) (eK 0 [(0,11)]) true 3),[.ss [98],Oe],.tup [.fr (List.length [(0,11)]) 2 (smp [(0,11)]),.si .i64 0],rfl,by decide,by decide,.cons (.told rfl) (.cons (.agg rfl) .nil),rfl,rfl,⟨[98],.inr ⟨eK 0 [(0,11)],rfl,rfl,WZ,W3⟩⟩,?_⟩
 conv=>whnf
 refine⟨0,p,(stV (eK 12 [(1,5),(5,6),(12,7)]) (eK 0 [(0,11)]) true 3),[.ss [98],.agg [.si .i64 1,.si .i64 5],.si .i64 0],(stV (eK 12 [(1,5),(5,6),(12,7)]) (eK 0 [(0,11)]) true 3),.si .i64 10,_,rfl,by decide,by decide,.cons (.told rfl) (.cons (.agg rfl) (.cons (.told rfl) .nil)),rfl,rfl,⟨[98],1,5,0,((stV (eK 12 [(1,5),(5,6),(12,7)]) (eK 0 [(0,11)]) true 3),10),rfl,⟨by decide,by decide⟩,xG,Kn (by decide) (by decide),WV,rfl,rfl⟩,?_⟩
 conv=>whnf
 refine⟨0,p,(stV (eK 12 [(1,5),(5,6),(12,7)]) (eK 0 [(0,11)]) true 3),[.ss [97],.si .i64 5,.si .i64 5],(stV (eK 12 [(1,5),(12,7)]) (eK 0 [(0,5)]) true 3),.tup [.si .i64 1,.si .i64 0],_,rfl,by decide,by decide,.cons (.told rfl) (.cons (.told rfl) (.cons (.told rfl) .nil)),rfl,rfl,⟨[97],5,5,((stV (eK 12 [(1,5),(12,7)]) (eK 0 [(0,5)]) true 3),1,0),rfl,xG,Kn (by decide) (by decide),XY,rfl,rfl⟩,?_⟩
 conv=>whnf
 refine⟨0,p,(stV (eK 12 [(1,5),(12,7)]) (eK 0 [(0,5)]) true 3),[.ss [98],Oe],.tup [.fr (List.length [(0,5)]) 2 (smp [(0,5)]),.si .i64 0],rfl,by decide,by decide,.cons (.told rfl) (.cons (.agg rfl) .nil),rfl,rfl,⟨[98],.inr ⟨eK 0 [(0,5)],rfl,rfl,W0,W4⟩⟩,?_⟩
 conv=>whnf
 refine⟨0,p,(stV (eK 12 [(1,5),(12,7)]) (eK 0 [(0,5)]) true 3),[.ss [97]],WD (some (eK 12 [(1,5),(12,7)])),rfl,by decide,by decide,.cons (.told rfl) .nil,rfl,rfl,⟨[97],rfl,rfl⟩,?_⟩
 conv=>whnf
 refine⟨0,p,(stV (eK 12 [(1,5),(12,7)]) (eK 0 [(0,5)]) true 3),[.ss [99],q0],.tup [.nsl,.si .i64 5],rfl,by decide,by decide,.cons (.told rfl) (.cons (.agg rfl) .nil),rfl,rfl,⟨[99],.inl ⟨rfl,rfl,rfl⟩⟩,?_⟩
 conv=>whnf
 refine⟨0,p,(stV (eK 12 [(1,5),(12,7)]) (eK 0 [(0,5)]) true 3),[.ss [97],.ss [98]],(stV (eK 12 [(1,5),(12,7)]) (eK 0 [(0,5)]) false 3),.si .i64 0,_,rfl,by decide,by decide,.cons (.told rfl) (.cons (.told rfl) .nil),rfl,rfl,⟨[97],[98],((stV (eK 12 [(1,5),(12,7)]) (eK 0 [(0,5)]) false 3),0),rfl,XZ,rfl,rfl⟩,?_⟩
 conv=>whnf
 iterate 9
  refine ae.dec (λ_=>?_) (λz=>absurd (by decide) z)
  conv=>whnf
 refine⟨[(0,11)],[(0,11)],.inr (.inl (.inr ⟨_,rfl,rfl,by decide⟩)),.inr (.inr ⟨_,_,_,_,_,_,rfl,.inr ⟨_,rfl⟩,rfl,rfl,by decide⟩),by decide,by decide,?_⟩
 conv=>whnf
 refine ae.sb (λ_=>?_) (λz=>absurd (W5.symm.trans z) (by decide))
 conv=>whnf
 iterate 4
  refine ae.dec (λ_=>?_) (λz=>absurd (by decide) z)
  conv=>whnf
 refine⟨[(0,5)],[(0,5)],.inr (.inl (.inr ⟨_,rfl,rfl,by decide⟩)),.inr (.inr ⟨_,_,_,_,_,_,rfl,.inr ⟨_,rfl⟩,rfl,rfl,by decide⟩),by decide,by decide,?_⟩
 conv=>whnf
 refine ae.sb (λ_=>?_) (λz=>absurd (W6.symm.trans z) (by decide))
 conv=>whnf
 refine ae.sb (λ_=>?_) (λz=>absurd z (by decide))
 conv=>whnf
 iterate 3
  refine ae.dec (λ_=>?_) (λz=>absurd (by decide) z)
  conv=>whnf
 refine⟨0,p,(stV (eK 12 [(1,5),(12,7)]) (eK 0 [(0,5)]) false 3),[],.fr 0 5 [],rfl,by decide,by decide,.nil,rfl,rfl,⟨rfl,by rw[WK];rfl⟩,?_⟩
 conv=>whnf
 iterate 1
  refine ae.dec (λ_=>?_) (λz=>absurd (by decide) z)
  conv=>whnf
 refine⟨0,p,(stV (eK 12 [(1,5),(12,7)]) (eK 0 [(0,5)]) false 3),[],.fr 2 1 (strs [[97],[98]]),rfl,by decide,by decide,.nil,rfl,rfl,⟨rfl,by rw[UJ];rfl⟩,?_⟩
 conv=>whnf
 refine⟨[.fr 2 1 (strs [[97],[98]]),.fr 2 1 (strs [[97],[98]])],.sb true,_,.cons .same (.cons (.sl rfl rfl rfl rfl) .nil),⟨[[97],[98]],[[97],[98]],rfl,by decide,rfl⟩,?_⟩
 conv=>whnf
 refine ae.sb (λ_=>?_) (λz=>absurd z (by decide))
 conv=>whnf
 refine⟨0,p,(stV (eK 12 [(1,5),(12,7)]) (eK 0 [(0,5)]) false 3),[97],_,rfl,by decide,by decide,.cons (.told rfl) .nil,rfl,rfl,.inr ⟨_,rfl,λd=>?_⟩⟩
 conv=>whnf
 refine⟨102,d,_,_,_,rfl,by decide,rfl,⟨by decide,rfl,rfl,rfl,rfl⟩,⟨rfl,rfl⟩,?_⟩
 conv=>whnf
 iterate 1
  refine ae.dec (λ_=>?_) (λz=>absurd (by decide) z)
  conv=>whnf
 refine⟨0,p,(stV (eK 12 [(1,5),(12,7)]) (eK 0 [(0,5)]) false 3),[.ss [97]],(kz (stV (eK 12 [(1,5),(12,7)]) (eK 0 [(0,5)]) false 3) [97]),.sb true,_,rfl,by decide,by decide,.cons (.told rfl) .nil,rfl,rfl,⟨[97],rfl,rfl,rfl⟩,?_⟩
 conv=>whnf
 refine ae.sb (λ_=>?_) (λz=>absurd z (by decide))
 conv=>whnf
 refine⟨0,p,(kz (stV (eK 12 [(1,5),(12,7)]) (eK 0 [(0,5)]) false 3) [97]),[.ss [97]],(kz (stV (eK 12 [(1,5),(12,7)]) (eK 0 [(0,5)]) false 3) [97]),.sb false,_,rfl,by decide,by decide,.cons (.told rfl) .nil,rfl,rfl,⟨[97],rfl,W7,W8⟩,?_⟩
 conv=>whnf
 exact rfl
end Go.Proofs.YtflehenfikoniaaGreat
end
