/- Texts of our own, joined: the engine, the machine that runs code, and what is known of the functions. -/
import Derived.Test.YtflehenfikoniaaGreatRows
import Derived.WalkKit
import Derived.Deep.Quiet
import Derived.ProofKit
import Derived.Laws.StructEq
import Derived.LaidEql
import Derived.Laws.BytesArg
import Derived.Maps.RangeRun
import Derived.RangeFuncSeq
import Derived.Scope
import Derived.Laws.Strings
import Derived.Laws.Strings2
import Derived.Below
import Derived.Carry
import Derived.OpenShut
import Derived.ChangeMaps5
import Derived.Deep.Slices
import Derived.Deep.SlicePairs
import Derived.SizedLaws
import Derived.Laws.BitsAllLaws
import Derived.RangeFuncRecord
import Derived.Test.YtflehenfikoniaaGreatJd
set_option linter.unusedSimpArgs false
set_option linter.unusedVariables false
set_option maxHeartbeats 16000000
set_option maxRecDepth 100000
noncomputable section
namespace Go.Proofs.YtflehenfikoniaaGreat
open Go Go.RowKit
def sQ (x:Lab):List Lab->List Lab
 | []=> [x]
 |p::r=>if ltL x.1 p.1=true then p::sQ x r else x::p::r
def jd (l:List Lab):List Lab:=l.foldl (λr x=>sQ x r) []
def b9 (l:List Lab):List Lab:=(jd l).reverse
theorem zH(x:Lab):∀r:List Lab,(sQ x r).Perm (x::r)
 | []=> .refl _
 |p::r=>by
  unfold sQ;split
  ·exact((zH x r).cons p).trans (.swap x p r)
  ·exact .refl _
theorem rr:∀(l r:List Lab),(l.foldl (λr x=>sQ x r) r).Perm (l++r)
 | [],r=> .refl _
 |x::l,r=>(rr l (sQ x r)).trans (((zH x r).append_left l).trans List.perm_middle)
theorem rv(l:List Lab):(b9 l).Perm l:=(List.reverse_perm _).trans ((rr l []).trans (by rw[q1d]))
theorem F8{l:List Lab}{i:Nat}(h:i<l.length):jd (l.take (i+1))=sQ l[i] (jd (l.take i)):=by
 unfold jd;rw[Y8 h,q3k];rfl
theorem Ku(l:List Lab):(jd l).length=l.length:=by
 have:=(rr l []).length_eq;rwa [q1d]at this
theorem D7:∀(L:List Lab) (i:Nat) (y:Lab),i<L.length->fD (cN L) (i*2) [.ss y.1,.ss y.2]=some (cN (L.set i y))
 | [],i,_,h=>by simp at h
 |z::L,0,y,_=>by
  rw[gK];show(fD (.ss z.2::cN L) 0 [.ss y.2]).map _=_;show((fD (cN L) 0 []).map _).map _=_;have:fD (cN L) 0 []=some (cN L):=by unfold fD;cases cN L<;>rfl
  rw[this];rfl
 |z::L,i+1,y,h=>by
  rw[gK,show(i+1)*2=i*2+1+1 by omega];show(fD (.ss z.2::cN L) (i*2+1) _).map _=_;show((fD (cN L) (i*2) _).map _).map _=_;rw[D7 L i y (by simpa using h)];rfl
theorem Ig{L M:List Lab}{i o:Nat}{y:Lab}(h:i<L.length)(ho:o=i*2)(a:L.set i y=M):fD (cN L) o [.ss y.1,.ss y.2]=some (cN M):=by subst ho a;exact D7 L i y h
theorem WV:RTy 28 28 2 32:=⟨_,_,_,rfl,rfl,(λq h=>by cases h),rfl,rfl,rfl,rfl,by decide,by decide⟩
def so0 (L:List Lab) (m:Nat) (i:Nat):AE×AH:=(mkE [(3,.rw 0 0 m 2 0),(9,.si .i64 ((m:Int))),(10,.si .i64 ((i:Int)))],mkH [(0,.cells (cN (L)) true)])
theorem BD{L:List Lab}{m:Nat}{i:Nat}{p n:Nat}{σ:AE}{H:AH}(a:Nat)(o:p<=0)(f:ah H 1 (λb=>if b=0 then a else b) (aj (pa 3) σ) (.rw 0 0 m 2 0))(j:mk (aj (pa 9) σ)= .si .i64 ((m:Int)))(c:mk (aj (pa 10) σ)= .si .i64 ((i:Int)))(k:(∃l,H.get a=some (.cells l true)/\l.map mk=cN (L))∨((L)=[]/\n<=a)):Cov p σ H n ((so0 L m i).1,(so0 L m i).2,1):=
 Cov.ofB (λb=>if b=0 then a else b) (by omega) (λb r=>by repeat' rw[if_neg (by omega)]) ⟨f,.int j,.int c,trivial⟩ ⟨k.elim (λ⟨l,h,g⟩=> .inl ⟨_,h,ao.bA (p8 _) (by rw[g,lz]) (λq=>q)⟩) (λh=> .inr ⟨by rw[h.1];rfl,h.2⟩),trivial⟩ rfl (λx d y e=>by simp only[Z4,Z5,or_false]at d e;subst d e;exact λ_=>rfl)
def so1 (L:List Lab) (m:Nat) (i:Nat) (k:Nat):AE×AH:=(mkE [(3,.rw 0 0 m 2 0),(5,.si .i64 ((k:Int))),(9,.si .i64 ((m:Int))),(10,.si .i64 ((i:Int)))],mkH [(0,.cells (cN (L)) true)])
theorem Ih{L:List Lab}{m:Nat}{i:Nat}{k:Nat}{p n:Nat}{σ:AE}{H:AH}(a:Nat)(s:p<=0)(f:ah H 1 (λb=>if b=0 then a else b) (aj (pa 3) σ) (.rw 0 0 m 2 0))(j:mk (aj (pa 5) σ)= .si .i64 ((k:Int)))(o:mk (aj (pa 9) σ)= .si .i64 ((m:Int)))(c:mk (aj (pa 10) σ)= .si .i64 ((i:Int)))(r:(∃l,H.get a=some (.cells l true)/\l.map mk=cN (L))∨((L)=[]/\n<=a)):Cov p σ H n ((so1 L m i k).1,(so1 L m i k).2,1):=
 Cov.ofB (λb=>if b=0 then a else b) (by omega) (λb t=>by repeat' rw[if_neg (by omega)]) ⟨f,.int j,.int o,.int c,trivial⟩ ⟨r.elim (λ⟨l,h,g⟩=> .inl ⟨_,h,ao.bA (p8 _) (by rw[g,lz]) (λq=>q)⟩) (λh=> .inr ⟨by rw[h.1];rfl,h.2⟩),trivial⟩ rfl (λx d y e=>by simp only[Z4,Z5,or_false]at d e;subst d e;exact λ_=>rfl)
def Yj:FuncId->EP:=bg 167 [] evP
theorem QZ:aV Yj:=au az (by kernel_rfl) (by kernel_rfl)
def SF(cs:List AV)(v:AV):Prop:=∃l:List Lab,cs=[.fr l.length 2 (cN l)]/\l.length<=1000/\v= .fr l.length 2 (cN (b9 l))
theorem WW:ak 167 (db SF):=pn QZ 4 (by kernel_rfl) λcs v ⟨l,G,N,g⟩=>by
 subst G g;refine⟨rfl,rfl,?_⟩;have m:(0+l.length)*32<=140737488355328:=by omega
 conv=>whnf
 refine bI.grow 2 32 _ _ _ _ _ _ WV .fr (jX l) (D4 l) .nsl m ?_
 conv=>whnf
 refine aR.mk {i:Nat//i<=l.length} 1 (λi=>so0 ((jd (l.take i.val)).reverse++l.drop i.val) l.length i.val) (λi=>l.length-i.val) ⟨0,Y5 _⟩ ?_ ?_
 focus
  exact BD (L:=(jd (l.take 0)).reverse++l.drop 0) (i:=0) 0 (Z3 0) (.rw (by decide) rfl) (congrArg (AV.si .i64) (by omega)) rfl (.inl ⟨_,rfl,lz l⟩)
 intro⟨i,w⟩;have w:i<=l.length:=w;have D:IntKind.i64.wrap ((i:Int)+1)=((i+1:Nat):Int):=by rw[ai (by omega) (by omega)];omega
 conv=>whnf
 refine ae.dec (λh=>?_) (λh=>?_)
 focus
  have g:i<l.length:=q0s.1 h;have b:=Ku (l.take i);rw[q0d,q3r w]at b;have H:(jd (l.take i)).reverse++l.drop i=(jd (l.take i)).reverse++l[i]::([]++l.drop (i+1)):=by rw[q0k g];rfl
  conv=>whnf
  refine aR.mk {t:List Lab×List Lab//t.1.length+t.2.length=i/\t.2.reverse++sQ l[i] t.1=jd (l.take (i+1))} 1 (λt=>so1 (t.val.1.reverse++l[i]::(t.val.2++l.drop (i+1))) l.length i t.val.1.length) (λt=>t.val.1.length) ⟨(jd (l.take i),[]),b,(F8 g).symm⟩ ?_ ?_
  focus
   exact Ih (k:=(jd (l.take i)).length) 0 (Z3 0) (.rw (by decide) rfl) (congrArg (AV.si .i64) (by rw[b])) rfl rfl (.inl ⟨_,rfl,by rw[H,lz]⟩)
  intro⟨(r,S),j,c⟩;have j:r.length+S.length=i:=j;have c:S.reverse++sQ l[i] r=jd (l.take (i+1)):=c;have a:(r.reverse++l[i]::(S++l.drop (i+1))).length=l.length:=by simp only[Z6,List.length_reverse,Z9,q0m];omega
  have done:sQ l[i] r=l[i]::r->(jd (l.take (i+1))).reverse++l.drop (i+1)=r.reverse++l[i]::(S++l.drop (i+1)):=λe=>by rw[<-c,e];simp
  cases r with
  |nil=>
   have hd:=done rfl
   conv=>whnf
   refine ae.dec (λz=>absurd (show((0:Nat):Int)>0 from z) (by decide)) (λ_=>?_)
   conv=>whnf
   exact⟨⟨i+1,g⟩,by show l.length-(i+1)<l.length-i;omega,BD (L:=(jd (l.take (i+1))).reverse++l.drop (i+1)) (i:=i+1) 0 (Z3 0) (.rw (by decide) rfl) rfl (congrArg (AV.si .i64) D) (.inl ⟨_,rfl,by rw[hd,lz]⟩)⟩
  |cons p r=>
   have u:IntKind.i64.wrap (((p::r).length:Int)-1)=((r.length:Nat):Int):=by simp only[Z9]at j⊢;rw[ai (by omega) (by omega)];omega
   have x:(p::r).reverse++l[i]::(S++l.drop (i+1))=r.reverse++p::l[i]::(S++l.drop (i+1)):=by simp
   have d:r.length+1<((p::r).reverse++l[i]::(S++l.drop (i+1))).length:=by rw[a];simp only[Z9]at j;omega
   have n:r.length<((p::r).reverse++l[i]::(S++l.drop (i+1))).length:=by omega
   have y:((p::r).reverse++l[i]::(S++l.drop (i+1)))[r.length+1]=l[i]:=by
    rw[List.getElem_append_right (by simp)];simp
   have A:((p::r).reverse++l[i]::(S++l.drop (i+1)))[r.length]=p:=by
    rw[List.getElem_of_eq x,List.getElem_append_right (by simp)];simp
   have E:=xP d (show 0+(r.length+1)*2+0=(r.length+1)*2 by omega);have F:=xP n (show 0+r.length*2+0=r.length*2 by omega);rw[y]at E;rw[A]at F;have s1:=pv d (show 0+(r.length+1)*2=(r.length+1)*2 by omega);have s0:=pv n (show 0+r.length*2=r.length*2 by omega);rw[y]at s1;rw[A]at s0
   have I:fD (cN ((p::r).reverse++l[i]::(S++l.drop (i+1)))) (0+(r.length+1)*2) [.ss p.1,.ss p.2]=some (cN (r.reverse++p::p::(S++l.drop (i+1)))):=Ig d (by omega) (by
    rw[x,q4g _ _ (by simp)];simp)
   have J:fD (cN (r.reverse++p::p::(S++l.drop (i+1)))) (0+r.length*2) [.ss l[i].1,.ss l[i].2]=some (cN (r.reverse++l[i]::(p::S++l.drop (i+1)))):=Ig (i:=r.length) (by simp only[Z6,List.length_reverse,Z9];omega) (by omega) (by
    rw[q4g _ _ (by simp)];simp)
   have B:r.length+1<l.length:=by simp only[Z9]at j;omega
   have f:r.length<l.length:=by omega
   have o:((p::r).length:Int)>0:=by simp only[Z9];omega
   have C:r.length<(p::r).length:=q1m _;have K:r.length+(p::S).length=i:=by simp only[Z9]at j⊢;omega
   have ins:ltL l[i].1 p.1=true->(p::S).reverse++sQ l[i] r=jd (l.take (i+1)):=λz=>by
    rw[<-c];have e:sQ l[i] (p::r)=p::sQ l[i] r:=if_pos z;rw[e];simp
   have s:ltL l[i].1 p.1=false->sQ l[i] (p::r)=l[i]::p::r:=λz=>if_neg (by rw[z];decide)
   have fin:=λz=>done (s z)
   clear x A y done s c
   conv=>whnf
   refine ae.dec (λ_=>?_) (λz=>absurd o z)
   conv=>whnf
   refine Idx.mk (r.length+1) rfl B ?_
   conv=>whnf
   refine aw E ?_
   conv=>whnf
   refine Idx.mk r.length u f ?_
   conv=>whnf
   refine aw F ?_
   conv=>whnf
   refine ae.sb (λz=>?_) (λz=>?_)
   focus
    have q:=ins z
    conv=>whnf
    refine Idx.mk r.length u f ?_
    conv=>whnf
    refine aw s0 ?_
    conv=>whnf
    refine Idx.mk (r.length+1) rfl B ?_
    conv=>whnf
    refine aw s1 ?_
    conv=>whnf
    refine Idx.mk (r.length+1) rfl B ?_
    conv=>whnf
    refine aw I ?_
    conv=>whnf
    refine Idx.mk r.length u f ?_
    conv=>whnf
    refine aw J ?_
    conv=>whnf
    exact⟨⟨(r,p::S),K,q⟩,C,Ih (k:=r.length) 0 (Z3 0) (.rw (by decide) rfl) (congrArg (AV.si .i64) u) rfl rfl (.inl ⟨_,rfl,lz _⟩)⟩
   have hd:=fin z
   conv=>whnf
   exact⟨⟨i+1,g⟩,by show l.length-(i+1)<l.length-i;omega,BD (L:=(jd (l.take (i+1))).reverse++l.drop (i+1)) (i:=i+1) 0 (Z3 0) (.rw (by decide) rfl) rfl (congrArg (AV.si .i64) D) (.inl ⟨_,rfl,by rw[hd,lz]⟩)⟩
 have M:i=l.length:=by have h:¬(i:Int)<(l.length:Int):=h;omega
 have c:(jd (l.take i)).reverse++l.drop i=b9 l:=by rw[M,q0l,List.drop_length,q1d];rfl
 have a:(cN (b9 l)).length=l.length*2:=by rw[jX,(rv l).length_eq]
 conv=>whnf
 exact dG.row rfl rfl rfl (by rw[c]) a (p8 _)
mutual
theorem N9:∀a:AV,ren (λb=>b) a=a
 | .agg l=>congrArg AV.agg (nP l)
 | .tup l=>congrArg AV.tup (nP l)
 | .fn f a c=>by simp only[ren,nP a,nP c]
 | .ptr _ _| .sl _ _ _ _ _| .esl _| .map _| .sy _ _ _ _ _| .rw _ _ _ _ _| .int _ _| .str _| .bool _| .nil| .nsl| .any _| .bad| .si _ _| .sb _| .ss _| .fr _ _ _| .fa _ _=>rfl
theorem nP:∀l:List AV,dY (λb=>b) l=l
 | []=>rfl
 |a::l=>by simp only[dY,N9 a,nP l]
end
theorem BE:∀l:List (AV×AV),yy (λb=>b) l=l
 | []=>rfl
 |a::l=>by simp only[yy,N9,BE l]
theorem Ii(o:AO):cP (λb=>b) o=o:=by
 cases o with
 |cells l z=>exact congrArg (AO.cells · z) (nP l)
 |map es=>exact congrArg AO.map (BE es)
 |mp es bs cl=>exact congrArg (AO.mp · bs cl) (BE es)
 |ro l=>exact congrArg AO.ro (nP l)
 |iter b k seen=>rfl
 |sep Q=>rfl
section
variable {K V:Type} [DecidableEq K]
def gA(k:K):List (K×V)->Nat->Option (Nat×V)
 | [],_=>none
 |e::A,i=>if k=e.1 then some (i,e.2)else gA k A (i+1)
def aM(A:List (K×V))(k:K):Option V:=(gA k A 0).map Prod.snd
theorem nQ{k:K}:∀{A:List (K×V)} {i:Nat},gA k A i=none->∀e∈A,e.1≠k
 | [],_,_,e,h=>by cases h
 |a::A,i,h,e,b=>by
  unfold gA at h;split at h
  ·cases h
  ·rename_i c;rcases Z4.1 b with rfl|b
   ·exact λq=>c q.symm
   ·exact nQ h e b
theorem gB{k:K}:∀{A:List (K×V)} {i j:Nat} {v:V},gA k A i=some (j,v)->i<=j/\A[j-i]?=some (k,v)
 | [],_,_,_,h=>by cases h
 |a::A,i,j,v,h=>by
  unfold gA at h;split at h
  ·rename_i d;injection h with h;injection h with c b;subst c b d;exact⟨Z3 _,by simp⟩
  ·obtain⟨c,b⟩:=gB h;refine⟨by omega,?_⟩;rw[show j-i=(j-(i+1))+1 by omega];simpa using b
theorem cY{A:List (K×V)}{k:K}{v:V}(h:aM A k=some v):(k,v)∈A:=by
 unfold aM at h;rw[Z7]at h;obtain⟨⟨i,u⟩,a,rfl⟩:=h;exact q0j (gB a).2
theorem tV{A:List (K×V)}{k:K}(h:aM A k=none):∀e∈A,e.1≠k:=by
 unfold aM at h;rw[Option.map_eq_none_iff]at h;exact nQ h
theorem fb{A:List (K×V)}{k:K}{v:V}(hn:(A.map Prod.fst).Nodup)(h:(k,v)∈A):aM A k=some v:=by
 cases e:aM A k with
 |none=>exact absurd rfl (tV e _ h)
 |some u=>
  have f:=cY e;obtain⟨i,l,b⟩:=q2z h;obtain⟨j,m,a⟩:=q2z f;have:i=j:=(List.getElem_inj (xs:=A.map Prod.fst) (h₀:=by simpa using l) (h₁:=by simpa using m) hn).1 (by simp[b,a]);subst this;rw[b]at a;injection a with _ a;rw[a]
structure MpC (K V:Type)where
 A:List (K×V)
 bs:List Nat
 cl:Nat
structure MpC.Ok(m:MpC K V):Prop where
 len:m.bs.length=m.A.length
 nd:m.bs.Nodup
 lt:∀x∈m.bs,x<m.cl
 key:(m.A.map Prod.fst).Nodup
def MpC.no:MpC K V:=⟨[],[],0⟩
def MpC.put(m:MpC K V)(k:K)(v:V):MpC K V:=match gA k m.A 0 with
 |none=>⟨m.A++ [(k,v)],m.bs++ [m.cl],m.cl+1⟩
 |some (i,_)=>⟨m.A.set i (k,v),m.bs,m.cl⟩
def MpC.del(m:MpC K V)(k:K):MpC K V:=match gA k m.A 0 with
 |none=>m
 |some (i,_)=>⟨m.A.eraseIdx i,m.bs.eraseIdx i,m.cl⟩
theorem MpC.Ok.put{m:MpC K V}(h:m.Ok)(k:K)(v:V):(m.put k v).Ok:=by
 unfold MpC.put;split
 ·rename_i e;refine⟨by simp[h.len],?_,λx a=>?_,?_⟩
  ·rw[q3s];exact⟨h.nd,by simp,λx a y b=>by have:=h.lt x a;simp at b;subst b;show x≠m.cl;omega⟩
  ·rcases q1e.1 a with a|a
   ·have:=h.lt x a;show x<m.cl+1;omega
   ·simp at a;subst a;exact q1m _
  ·rw[q0r,q3s];refine⟨h.key,by simp,λx a y b=>?_⟩;simp at b;subst b;obtain⟨z,d,rfl⟩:=q0t.1 a;exact nQ e z d
 ·rename_i i u e;refine⟨by simp[h.len],h.nd,h.lt,?_⟩;have c:=(gB e).2;rw[q3i]at c
  have:(m.A.set i (k,v)).map Prod.fst=m.A.map Prod.fst:=by
   rw[List.map_set];obtain⟨l,f⟩:=Y6.1 c;apply List.ext_getElem (by simp);intro j n o;rw[List.getElem_set];split
   ·rename_i q;subst q;simp[f]
   ·rfl
  show((m.A.set i (k,v)).map Prod.fst).Nodup;rw[this];exact h.key
theorem MpC.Ok.del{m:MpC K V}(h:m.Ok)(k:K):(m.del k).Ok:=by
 unfold MpC.del;split
 ·exact h
 ·rename_i i u e;refine⟨?_,h.nd.sublist (q4h _ _),λx a=>h.lt x ((q4h _ _).subset a),?_⟩
  ·show(m.bs.eraseIdx i).length=(m.A.eraseIdx i).length;rw[List.length_eraseIdx,List.length_eraseIdx,h.len]
  ·show((m.A.eraseIdx i).map Prod.fst).Nodup;exact h.key.sublist ((q4h _ _).map _)
theorem sR{m:MpC K V}{k:K}{v:V}{e:K×V}(h:e∈(m.put k v).A):e=(k,v)∨e∈m.A:=by
 unfold MpC.put at h;split at h
 ·rcases q1e.1 h with h|h
  ·exact .inr h
  ·simp at h;exact .inl h
 ·exact(List.mem_or_eq_of_mem_set h).symm
theorem BF{m:MpC K V}{k:K}{e:K×V}(h:e∈(m.del k).A):e∈m.A:=by
 unfold MpC.del at h;split at h
 ·exact h
 ·exact(q4h _ _).subset h
theorem xQ{m:MpC K V}(h:m.Ok)(k:K)(v:V)(x:K):aM (m.put k v).A x=if x=k then some v else aM m.A x:=by
 have d:=(h.put k v).key
 have cm:∀e∈m.A,e.1≠k->e∈(m.put k v).A:=λe f l=>by
  unfold MpC.put;split
  ·exact q2c _ f
  ·rename_i i u b;obtain⟨j,n,o⟩:=q2z f;have a:=(gB b).2;rw[q3i]at a
   have c:i≠j:=λq=>by
    subst q;rw[Y0 n,o]at a;injection a with a;rw[a]at l;exact l rfl
   show e∈m.A.set i (k,v);rw[<-o];exact q1q.2 ⟨j,by simpa using n,by rw[List.getElem_set_ne c]⟩
 have new:(k,v)∈(m.put k v).A:=by
  unfold MpC.put;split
  ·simp
  ·rename_i i u b;have a:=(gB b).2;rw[q3i]at a;obtain⟨r,_⟩:=Y6.1 a;exact q1q.2 ⟨i,by simpa using r,by simp⟩
 split
 ·rename_i e;subst e;exact fb d new
 ·rename_i p;cases e:aM m.A x with
  |some u=>exact fb d (cm _ (cY e) p)
  |none=>
   cases b:aM (m.put k v).A x with
   |none=>rfl
   |some w=>
    rcases sR (cY b)with q|q
    ·injection q with q _;exact absurd q p
    ·exact absurd rfl (tV e _ q)
theorem D8{m:MpC K V}(h:m.Ok)(k x:K):aM (m.del k).A x=if x=k then none else aM m.A x:=by
 have r:=(h.del k).key;split
 ·rename_i e;subst e;cases b:aM (m.del x).A x with
  |none=>rfl
  |some u=>
   have c:=cY b;unfold MpC.del at c;split at c
   ·rename_i e;exact absurd rfl (nQ e _ c)
   ·rename_i i w e;have a:=(gB e).2;rw[q3i]at a;obtain⟨s,t⟩:=Y6.1 a;obtain⟨j,d,f⟩:=List.mem_eraseIdx_iff_getElem.1 c;have:i=j:=(List.getElem_inj (xs:=m.A.map Prod.fst) (h₀:=by simpa using s) (h₁:=by simpa using d) h.key).1 (by simp[t,f.2]);exact absurd this.symm f.1
 ·rename_i v;cases e:aM m.A x with
  |some u=>
   refine fb r ?_;have o:=cY e;unfold MpC.del;split
   ·exact o
   ·rename_i i w b;have a:=(gB b).2;rw[q3i]at a;obtain⟨j,d,p⟩:=q2z o;refine List.mem_eraseIdx_iff_getElem.2 ⟨j,d,λq=>?_,p⟩;subst q;rw[Y0 d,p]at a;injection a with a;injection a with a;exact v a
  |none=>
   cases b:aM (m.del k).A x with
   |none=>rfl
   |some w=>exact absurd rfl (tV e _ (BF (cY b)))
end
theorem MpC.D9{K V:Type}:(MpC.no:MpC K V).Ok:=⟨rfl,.nil,λx h=>(by cases h),.nil⟩
section
variable {K V:Type} [DecidableEq K] {kA:K->AV} {g:V->AV} {kd:TypeDesc}
def jv(kA:K->AV)(g:V->AV)(A:List (K×V)):List (AV×AV):=A.map λe=>(kA e.1,g e.2)
def MpC.O(kA:K->AV)(g:V->AV)(m:MpC K V):AO:= .mp (jv kA g m.A) m.bs m.cl
structure xR(kA:K->AV)(kd:TypeDesc):Prop where
 same:∀a b,Cp kd (kA a) (kA b)=some (decide (a=b))
 ok:∀a,Ap kd (kA a)=true
theorem p9(a:xR kA kd)(k:K):∀(A:List (K×V)) (i:Nat),mA kd (kA k) (jv kA g A) i=some ((gA k A i).map λr=>(r.1,g r.2))
 | [],i=>by
  show(match Ap kd (kA k)with|true=>some none|false=>none)=_;rw[a.ok];rfl
 |e::A,i=>by
  show(match Cp kd (kA k) (kA e.1)with|some true=>some (some (i,g e.2))|some false=>mA kd (kA k) (jv kA g A) (i+1)|none=>none)=_;rw[a.same];unfold gA;by_cases q:k=e.1
  ·rw[if_pos q,decide_eq_true q];rfl
  ·rw[if_neg q,decide_eq_false q];exact p9 a k A (i+1)
def lkV(ok:Bool)(z:AV)(r:Option AV):AV:=match ok,r with
 |true,some v=> .tup [v,.bool true]
 |false,some v=>v
 |true,none=> .tup [z,.bool false]
 |false,none=>z
theorem Q0{P:Program}{t c a:TypeId}{H:AH}{b:Nat}{m:MpC K V}{k:K}{ok:Bool}{z:Value}{x y:AV}(d:xR kA kd)(e:dW P t=some (c,kd,a))(f:x= .map b)(h:y=kA k)(i:H.get b=some (m.O kA g))(j:cZ P a=some z):jC P t x y ok H=some (lkV ok (ofV z) ((aM m.A k).map g)):=by
 subst f h;unfold jC;rw[e];dsimp only;rw[i];show ti P kd a (kA k) ok (jv kA g m.A)=_;unfold ti;rw[p9 d];unfold aM;cases gA k m.A 0 with
 |none=>simp only[q2k,j];cases ok<;>rfl
 |some r=>cases ok<;>rfl
theorem xS{P:Program}{t a c:TypeId}{H:AH}{n b:Nat}{m:MpC K V}{k:K}{v:V}{x y u:AV}(d:xR kA kd)(f:dW P t=some (a,kd,c))(j:x= .map b)(l:y=kA k)(o:u=g v)(p:H.get b=some (m.O kA g)):lO P t x y u H n=some (c6,H.set (some ((m.put k v).O kA g)) aa b,n):=by
 subst j l o;unfold lO;rw[f];dsimp only;rw[p];show(match mA kd (kA k) (jv kA g m.A) 0 with|some none=>_|some (some y)=>_|none=>none)=_;rw[p9 d]
 have q:∀A:List (K×V),lM (kA k) (g v) (jv kA g A) none=jv kA g (A++ [(k,v)]):=λA=>by
  have:lM (kA k) (g v) (jv kA g A) none=jv kA g A++ [(kA k,g v)]:=by cases A<;>rfl
  rw[this];unfold jv;rw[q0r];rfl
 have s:∀(A:List (K×V)) (i:Nat) (w:AV),lM (kA k) (g v) (jv kA g A) (some (i,w))=jv kA g (A.set i (k,v)):=λA=>by
  induction A with
  |nil=>intro i w;rfl
  |cons e A z=>
   intro i w;cases i with
   |zero=>rfl
   |succ i=>show _::lM (kA k) (g v) (jv kA g A) (some (i,w))=_;rw[z];rfl
 unfold MpC.put;cases h:gA k m.A 0 with
 |none=>simp only[q2k,q];rfl
 |some r=>obtain⟨i,w⟩:=r;simp only[q0e,s];rfl
theorem tW{P:Program}{t a c:TypeId}{H:AH}{n b:Nat}{m:MpC K V}{k:K}{x y:AV}(d:xR kA kd)(e:dW P t=some (a,kd,c))(f:x= .map b)(j:y=kA k)(l:H.get b=some (m.O kA g)):EW P t x y H n=some (.tup [],H.set (some ((m.del k).O kA g)) aa b,n):=by
 subst f j;unfold EW;rw[e];dsimp only;rw[l];show(match mA kd (kA k) (jv kA g m.A) 0 with|some none=>_|some (some (i,_))=>_|none=>none)=_;rw[p9 d];unfold MpC.del;cases h:gA k m.A 0 with
 |none=>rfl
 |some r=>
  obtain⟨i,w⟩:=r;show some (AV.tup [],H.set (some (AO.mp ((jv kA g m.A).eraseIdx i) (m.bs.eraseIdx i) m.cl)) aa b,n)=_;unfold jv;rw[<-tw];rfl
end
section
variable {K V:Type} {kA:K->AV} {g:V->AV}
theorem bp{m:MpC K V}{j:Nat}(a:∀k,ltV j (kA k)=true)(b:∀v,ltV j (g v)=true):ltO j (m.O kA g)=true:=by
 show ltE j (jv kA g m.A)=true;unfold jv
 induction m.A with
 |nil=>rfl
 |cons e A c=>show(ltV j (kA e.1)&&(ltV j (g e.2)&&ltE j (jv kA g A)))=true;rw[a,b];exact c
theorem vm{A:List (K×V)}{i:Nat}{e:AV×AV}(h:(jv kA g A)[i]?=some e):∃f:i<A.length,e=(kA A[i].1,g A[i].2):=by
 unfold jv at h;rw[q0w,Z7]at h;obtain⟨x,a,b⟩:=h;obtain⟨c,d⟩:=Y6.1 a;subst d;exact⟨c,b.symm⟩
theorem ao.Oa{H:AH}{j:Nat}{r:Nat->Nat}:ao H j r (.map []) ((MpC.no:MpC K V).O kA g):=⟨⟨rfl,rfl⟩,λe f p h _ _ ⟨ms,cl,b,a,c⟩=>by
 have a:ms.toList=[]:=a;have d:cl=0:=by rw[c.1,a];rfl
 subst d;exact⟨ms,b,a,by rw[a];rfl⟩⟩
end
def kT(s:Tx):AV:= .str s
def kL(y:Lab):AV:= .agg [.str y.1,.str y.2]
theorem bS:xR kT .string:=⟨λa b=>congrArg some (by rw[q2p,bE,decide_eq_true_eq]),λ_=>rfl⟩
theorem Ij{c:Array Field}(h:kl c=[(1,0),(1,1)]):xR kL (.struct c):=by
 have e:∀a b:Lab,(dR a.1 b.1&&(dR a.2 b.2&&true))=decide (a=b):=λa b=>by
  rw[q2p,Z8,Z8,bE,bE,decide_eq_true_eq,Prod.ext_iff];simp
 refine⟨λa b=>?_,λa=>?_⟩
 ·show(match jJ [AV.str a.1,.str a.2] [.str b.1,.str b.2] (kl c),vX [AV.str a.1,.str a.2] [.str b.1,.str b.2]with|some p,some q=>if p=q then some q else none|_,_=>none)=_;rw[h];show(if(dR a.1 b.1&&(dR a.2 b.2&&true))=(dR a.1 b.1&&(dR a.2 b.2&&true))then some (dR a.1 b.1&&(dR a.2 b.2&&true))else none)=_;rw[if_pos rfl,e]
 ·show(jJ [AV.str a.1,.str a.2] [.str a.1,.str a.2] (kl c)).isSome=true;rw[h];rfl
theorem Re.opt{H:AH}{n k:Nat}{a:Type}{g:List a->AV}(b:g []= .fr 0 k [])(r:Option (List a)):Re H n (lkV false .nsl (r.map g)) H (g (r.getD [])):=by
 cases r with
 |none=>show Re H n .nsl H (g []);rw[b];exact .nsl
 |some v=>exact .same
def iG{X C:Type}(k:Nat)(B:Obj X C)(R:X->List AV->X->AV->Prop)(args:List AV)(H:AH)(n:Nat)(κ:PK):Prop:=match args with
 |a::f=>∃x cs d v b c,a= .ptr 0 0/\k<=n/\Res H n f b cs/\B.ok x c/\(∀i o,(B.O c)[i]?=some o->b.get i=some o)/\R x cs d v/\∀e,B.ok d e->κ v (sM (B.O e) 0 b) n
 |_=>False
theorem xT {X C:Type} {f:FuncId} {run:List AV->AH->Nat->PK->Prop} (A:ak f run) (I:bY Tryz.prog f=true) (B:Obj X C) {k:Nat} (hk:B.k=k) (hk9:k<1000) {R:X->List AV->X->AV->Prop}
 (h:∀x cs l v,R x cs l v->cs.all gT=true/\gT v=true/\∀c,B.ok x c->run (.ptr 0 0::cs) (mkH (bM (B.O c) 0)) k (gm B l v)):ak f (iG k B R):=λargs H n κ F φ J L vs K M p P=>by
 unfold iG at F;split at F
 ·rename_i a ar;obtain⟨x,cs,l,v,T,c,rfl,hkn,D,hc,U,hR,W⟩:=F;obtain⟨w1,Y,q1,e1,r1⟩:=p.cons_inv;subst hk;obtain⟨Z,l1,hr1,ha1⟩:=D φ J L Y M r1;obtain⟨s1,s2,s3⟩:=h x cs l v hR;have t:=s3 c hc;have E:∀{o:AO} {N:Nat},ltO B.k o=true->cP (bu (lI 0 B.k) N) o=o:=λ{o N} ho=>(iu (r':=λb=>b) (m:=B.k) (λj hj=>(nN hj).trans (q0x j)) ho).trans (Ii o)
  have xh:iX T n (lI 0 B.k) (B.O c):=⟨rn _ _,by rw[dz,B.len],λi s o h1 h2=>by
   obtain⟨h3,rfl⟩:=sO h1;obtain⟨_,h4,h5⟩:=B.lt c h2;refine⟨by omega,?_,.inr h4⟩;rw[q0x,U i o h2,E h5]⟩
  refine dC (S:=lI 0 B.k) (O:=B.O c) (args0:= .ptr 0 0::cs) (κ:=λv2 H2 n2=>v2=v/\n2=n/\∃d,B.ok l d/\H2=sM (B.O d) 0 T) A.m I hr1 xh ?_ ?_ (Q:=λv' H' m=>v'=v/\m=B.k/\∃d,B.ok l d/\H'=mkH (bM (B.O d) 0)) ?_ λu H' n' hq=>?_
  ·rw[q1];refine .cons ?_ ?_
   ·show VR Z (.ptr (bu (lI 0 B.k) n 0) 0) w1;rw[nN (B.k0 c)];exact VR.mono l1 _ _ e1
   ·rw[mS s1];exact ha1
  ·intro χ v2 H2 n2 u g hle hg hu ⟨f1,f2,d,f3,f4⟩;subst f1 f2 f4;exact P χ _ _ _ u g (l1.trans hle) hg hu (W d f3)
  ·refine⟨gm B l v,by rw[dz];exact t,λu H' n' ⟨H2,d,g1,g2,g3⟩=>⟨v,mkH (bM (B.O d) 0),B.k,λχ J L w M hu=>?_,rfl,rfl,d,g2,rfl⟩⟩;obtain⟨ψ1,m1,hr3,hu3⟩:=g1 χ J L w M hu;obtain⟨ψ2,G,hr4⟩:=BB hr3 g3 (by rw[B.len];exact Z3 _);rw[dz];exact⟨ψ2,⟨λy q hy e=>G.1 y q hy (m1.b y q e),λq e=>G.2.1 q (m1.z q e),λq e=>m1.y q (G.2.2 q e)⟩,hr4,nM G.2.1 s2 hu3⟩
  ·obtain⟨g1,g2,d,g3,g4⟩:=hq;subst g1 g2 g4;refine⟨B.k,sM (B.O d) 0 T,by rw[dz];exact Z3 _,λy o hy=>?_,(iZ (r:=λb=>b) s2).2,(iZ (m:=0) s2).1,by rw[dz];omega,d,g3,rfl⟩;rcases mR hy with⟨i,rfl,i1⟩|⟨i2,i3⟩
   ·obtain⟨j1,j2,j3⟩:=B.lt d i1;have:=sN (k:=0) (by rw[B.len];omega) i1;rw[q0x]at this⊢;exact .inl ⟨i,o,j1,by rw[nN j1,q0x],this,j2,j3,(E j3).symm⟩
   ·rw[B.len]at i2;exact .inr ⟨by rw[dz];omega,i3,λq=>by have:=jV q;omega⟩
 ·exact F.elim
section
variable {K V:Type} [DecidableEq K]
def gU(A:List (K×V))(k:K)(v:V):List (K×V):=match gA k A 0 with
 |none=>A++ [(k,v)]
 |some (i,_)=>A.set i (k,v)
def dA(A:List (K×V))(k:K):List (K×V):=match gA k A 0 with
 |none=>A
 |some (i,_)=>A.eraseIdx i
theorem Ik(m:MpC K V)(k:K)(v:V):(m.put k v).A=gU m.A k v:=by unfold MpC.put gU;split<;>simp_all
theorem xU(m:MpC K V)(k:K):(m.del k).A=dA m.A k:=by unfold MpC.del dA;split<;>simp_all
theorem tX{A:List (K×V)}{k:K}(h:aM A k=none):dA A k=A:=by
 unfold aM at h;rw[Option.map_eq_none_iff]at h;unfold dA;rw[h]
theorem aZ{kA:K->AV}{g:V->AV}{a:TypeDesc}{P:Program}{t d c:TypeId}{H:AH}{b:Nat}{m:MpC K V}{k:K}{ok:Bool}{z:Value}{x y:AV}{r:Option V}(e:xR kA a)(f:dW P t=some (d,a,c))(h:x= .map b)(i:y=kA k)(j:H.get b=some (m.O kA g))(l:cZ P c=some z)(n:aM m.A k=r):jC P t x y ok H=some (lkV ok (ofV z) (r.map g)):=by subst n;exact Q0 e f h i j l
end
theorem mc:∀(A B:List Tx),(bw false A B).length<=A.length
 | [],B=>by rw[gx];simp
 |a::A,[]=>by rw[gy];simp
 |a::A,b::B=>by
  by_cases h:leS a b=true
  ·by_cases k:leS b a=true
   ·have:=mc A B;rw[mU A B h k];simp only[q2a,if_false,q2h,Z9];omega
   ·have:=mc A (b::B);rw[mT A B h k];simp only[Z9];omega
  ·have:=mc (a::A) B;rw[mV A B h];simpa using this
termination_by A B=>A.length+B.length
theorem Il(V:List Tx)(s:Tx):(BC V s).length<=V.length:=Y7 (mc _ _) (dt V)
def gL(l:List Lab):AV:= .fr l.length 2 (cN l)
def gS(V:List Tx):AV:= .fr V.length 1 (strs V)
structure Ix where
 A:List (Tx×List Lab)
 w:Nat
abbrev IxC:=MpC Tx (List Lab)×MpC Lab (List Tx)×MpC Tx (List Tx)
def ixO(c:IxC):List AO:=[.cells [.map 1,.map 2,.map 3] true,c.1.O kT gL,c.2.1.O kL gS,c.2.2.O kT gS]
def Rows{K:Type}(m:MpC K (List Tx))(w:Nat):Prop:=∀e∈m.A,e.2.length<=w
structure Ob(x:Ix)(c:IxC):Prop where
 A:c.1.A=x.A
 o1:c.1.Ok
 o2:c.2.1.Ok
 o3:c.2.2.Ok
 r2:Rows c.2.1 x.w
 r3:Rows c.2.2 x.w
 lab:∀e∈x.A,iI e.1=true/\ew e.2=true
theorem eo{j:Nat}(k:Tx):ltV j (kT k)=true:=rfl
theorem Ea{j:Nat}(k:Lab):ltV j (kL k)=true:=rfl
theorem Eb{j:Nat}(l:List Lab):ltV j (gL l)=true:=rfl
theorem og{j:Nat}(V:List Tx):ltV j (gS V)=true:=rfl
def IxB:Obj Ix IxC where
 ok:=Ob
 O:=ixO
 k:=4
 len _:=rfl
 own c o h:=by
  simp only[ixO,Z4,Z5,or_false]at h;rcases h with rfl|rfl|rfl|rfl
  ·exact⟨rfl,rfl⟩
  ·exact⟨rfl,bp eo Eb⟩
  ·exact⟨rfl,bp Ea og⟩
  ·exact⟨rfl,bp eo og⟩
 pos c:=⟨_,_,_,rfl⟩
theorem sS{H:AH}{c:IxC}(a:H.get 0=some (.cells [.map 1,.map 2,.map 3] true))(b:H.get 1=some (c.1.O kT gL))(d:H.get 2=some (c.2.1.O kL gS))(e:H.get 3=some (c.2.2.O kT gS)):yA H 4 (ixO c) 0:=
 ⟨⟨_,a,.refl rfl⟩,⟨_,b,.refl (bp eo Eb)⟩,⟨_,d,.refl (bp Ea og)⟩,⟨_,e,.refl (bp eo og)⟩,trivial⟩
theorem mkA:dW Tryz.prog 162=some (9,.string,28):=by kernel_rfl
theorem mkN:dW Tryz.prog 164=some (9,.string,58):=by kernel_rfl
theorem mkL:∃a,dW Tryz.prog 163=some (100,.struct a,58)/\kl a=[(1,0),(1,1)]:=⟨Tryz.prog.fieldsOf 100,by kernel_rfl,by kernel_rfl⟩
theorem F9:cZ Tryz.prog 28=some (.slice none 0 0):=by kernel_rfl
theorem zTx:cZ Tryz.prog 58=some (.slice none 0 0):=by kernel_rfl
section
variable {K:Type} [DecidableEq K] {m:MpC K (List Tx)} {w:Nat}
theorem Rows.get(h:Rows m w)(k:K):((aM m.A k).getD []).length<=w:=by
 cases e:aM m.A k with
 |none=>simp
 |some V=>exact h _ (cY e)
theorem Rows.put(h:Rows m w){k:K}{V:List Tx}(b:V.length<=w):Rows (m.put k V) w:=λe a=>by
 rcases sR a with rfl|a
 ·exact b
 ·exact h e a
theorem Rows.del(h:Rows m w){k:K}:Rows (m.del k) w:=λe a=>h e (BF a)
end
theorem Rows.le{K:Type}{m:MpC K (List Tx)}{w:Nat}(h:Rows m w){w':Nat}(a:w<=w'):Rows m w':=λe b=>Y7 (h e b) a
def oq{K:Type} [DecidableEq K](m:MpC K (List Tx))(k:K)(V:List Tx):MpC K (List Tx):=if V.length=0 then m.del k else m.put k V
theorem vn{K:Type} [DecidableEq K]{m:MpC K (List Tx)}{w:Nat}{k:K}{V:List Tx}(h:m.Ok)(a:Rows m w)(b:V.length<=w):(oq m k V).Ok/\Rows (oq m k V) w:=by
 unfold oq;split
 ·exact⟨h.del k,a.del⟩
 ·exact⟨h.put k V,a.put b⟩
def zI{K:Type} [DecidableEq K](kA a:K->AV)(args:List AV)(H:AH)(n:Nat)(κ:PK):Prop:=match args with
 | [x,y,z]=>∃(b:Nat) (m:MpC K (List Tx)) (k:K) (V:List Tx),x= .map b/\b<n/\n<900000/\y=a k/\z=gS V/\H.get b=some (m.O kA gS)/\κ (.tup []) (H.set (some ((oq m k V).O kA gS)) aa b) n
 |_=>False
theorem Oc {K:Type} [DecidableEq K] {kA g:K->AV} (E:∀k,gT (g k)=true) (C:∀k j,ltV j (kA k)=true) {f:FuncId} {run:List AV->AH->Nat->PK->Prop} (p:ak f run) (y:bY Tryz.prog f=true)
 (h:∀(m:MpC K (List Tx)) (k:K) (V:List Tx),run [.map 0,g k,gS V] (mkH [(0,m.O kA gS)]) 1 λu H' _=>u= .tup []/\H'.get 0=some ((oq m k V).O kA gS)):ak f (zI kA g):=λargs H n D v P Q R T K F d G=>by
 unfold zI at v;split at v
 ·obtain⟨b,m,k,V,rfl,z,U,rfl,rfl,I,A⟩:=v
  have t:∀{o:AO} {r:Nat->Nat},(∃m:MpC _ (List Tx),o=m.O kA gS)->cP r o=o:=λ{o r} ⟨m,e⟩=>by
   subst e;exact(iu (m:=0) (λc J=>absurd J (q0n c)) (bp (λk=>C k 0) og)).trans (Ii _)
  refine dC (S:=[b]) (O:=[m.O kA gS]) (args0:=[.map 0,g k,gS V]) (κ:=D) p y F ⟨by simp,rfl,λi s o l a=>?_⟩ ?_ G (h m k V) λu H' W ⟨L,M⟩=>?_
  ·cases i with
   |zero=>injection l with l;injection a with a;subst l a;exact⟨z,I.trans (congrArg some (t ⟨m,rfl⟩).symm),.inr rfl⟩
   |succ i=>simp at l
  ·have e:dY (bu [b] n) [.map 0,g k,gS V]=[.map b,g k,gS V]:=by simp only[dY,(iZ (m:=0) (E k)).1];rfl
   rw[e];exact d
  ·subst L;refine⟨1,H.set (some ((oq m k V).O kA gS)) aa b,Z3 1,λx o N=>?_,rfl,A⟩;rcases PM.al aa H b x o N with⟨rfl,a⟩|⟨l,a⟩
   ·injection a with a;subst a;exact .inl ⟨0,_,Nat.zero_lt_one,rfl,M,rfl,bp (λk=>C k 1) og,(t ⟨_,rfl⟩).symm⟩
   ·exact .inr ⟨by simp;omega,a,λq=>absurd (by simpa using q) l⟩
 ·exact v.elim
def kTs(s:Tx):AV:= .ss s
def kLs(y:Lab):AV:= .agg [.ss y.1,.ss y.2]
theorem Im{K:Type} [DecidableEq K]{m:MpC K (List Tx)}{k:K}{V:List Tx}{kA:K->AV}:((V.length:Int)=0->(m.del k).O kA gS=(oq m k V).O kA gS)/\(¬(V.length:Int)=0->(m.put k V).O kA gS=(oq m k V).O kA gS):=
 ⟨λh=>by unfold oq;rw[if_pos (by omega)],λh=>by unfold oq;rw[if_neg (by omega)]⟩
theorem UJ:ak 127 (zI kT kTs):=Oc (λ_=>rfl) (λ_ _=>rfl) (ay az 3 _) (by kernel_rfl) λm k V=>by
 have q:=Im (m:=m) (k:=k) (V:=V) (kA:=kT)
 conv=>whnf
 refine ae.dec (λz=>?_) (λz=>?_)
 ·have e:=q.1 z
  conv=>whnf
  refine Ask.mk _ (tW (m:=m) (g:=gS) bS mkN rfl rfl rfl) ?_
  conv=>whnf
  exact⟨rfl,congrArg some e⟩
 ·have e:=q.2 z
  conv=>whnf
  refine Ask.mk _ (xS (m:=m) (g:=gS) bS mkN rfl rfl rfl rfl) ?_
  conv=>whnf
  exact⟨rfl,congrArg some e⟩
theorem UK:ak 125 (zI kL kLs):=Oc (λ_=>rfl) (λ_ _=>rfl) (ay az 3 _) (by kernel_rfl) λm k V=>by
 have q:=Im (m:=m) (k:=k) (V:=V) (kA:=kL);obtain⟨d,a,b⟩:=mkL
 conv=>whnf
 refine ae.dec (λz=>?_) (λz=>?_)
 ·have e:=q.1 z
  conv=>whnf
  refine Ask.mk _ (tW (m:=m) (g:=gS) (Ij b) a rfl rfl rfl) ?_
  conv=>whnf
  exact⟨rfl,congrArg some e⟩
 ·have e:=q.2 z
  conv=>whnf
  refine Ask.mk _ (xS (m:=m) (g:=gS) (Ij b) a rfl rfl rfl rfl) ?_
  conv=>whnf
  exact⟨rfl,congrArg some e⟩
def ixD (k:Tx) (l:List Lab) (i:Nat) (c:IxC):AE×AH:=(mkE [(0,.ptr 0 (0)),(1,.ss (k)),(16,.fr l.length 2 (cN l)),(17,.si .i64 ((l.length:Int))),(18,.si .i64 ((i:Int)))],mkH [(0,.cells [.map 1,.map 2,.map 3] true),(1,c.1.O kT gL),(2,c.2.1.O kL gS),(3,c.2.2.O kT gS)])
theorem Io{k:Tx}{l:List Lab}{i:Nat}{c:IxC}{p n:Nat}{σ:AE}{H:AH}(e:p<=4)(f:aj (pa 0) σ= .ptr 0 (0))(g:mk (aj (pa 1) σ)= .ss (k))(a:aj (pa 16) σ= .fr l.length 2 (cN l))(b:mk (aj (pa 17) σ)= .si .i64 ((l.length:Int)))(d:mk (aj (pa 18) σ)= .si .i64 ((i:Int)))(h:H.get 0=some (.cells [.map 1,.map 2,.map 3] true))(j:H.get 1=some (c.1.O kT gL))(o:H.get 2=some (c.2.1.O kL gS))(q:H.get 3=some (c.2.2.O kT gS)):Cov p σ H n ((ixD k l i c).1,(ixD k l i c).2,4):=
 Cov.ofA e ⟨.ptr (by decide) f,.str g,ah.frE a,.int b,.int d,trivial⟩ ⟨.inl ⟨_,h,ao.refl rfl⟩,.inl ⟨_,j,ao.refl (bp eo Eb)⟩,.inl ⟨_,o,ao.refl (bp Ea og)⟩,.inl ⟨_,q,ao.refl (bp eo og)⟩,trivial⟩ rfl
def Od:DT:=[(6,[(some 0,[0]),(some 0,[22]),(some 0,[23]),(some 0,[24]),(some 0,[6]),(some 0,[0]),(some 0,[27]),(some 0,[28]),(some 0,[29]),(some 0,[6]),(some 0,[30,31]),(some 0,[1]),(none,[32,33])]),
 (7,[(some 0,[0]),(some 0,[36]),(some 0,[37]),(some 0,[38]),(some 0,[6]),(some 0,[40]),(some 0,[0]),(some 0,[42]),(some 0,[43]),(some 0,[44]),(some 0,[6]),(some 0,[46]),(some 0,[45,47]),(some 0,[1]),(none,[48,49])])]
def KIx:FuncId->EP:=cn 166 (uH UF) (cn 126 (uH WR) (cn 167 (uH SF) (aq 105 (db D5) (aq 106 (db UH) (aq 124 (db UG) (aq 127 (zI kT kTs) (aq 125 (zI kL kLs) evP)))))))
theorem Ga:aV KIx:=aL (aL (aL (ag (ag (ag (ag (ag az UK) UJ) SD) WU) Ic) WW.cs (xI _)) Yg.cs (xI _)) WS.cs (xI _)
def KId:FuncId->EP:=bg 68 Od KIx
theorem Oe:aV KId:=au Ga (by kernel_rfl) (by kernel_rfl)
def Q1(x:Ix)(cs:List AV)(a:Ix)(v:AV):Prop:=∃k,cs=[.ss k]/\x.w<900000/\a=⟨dA x.A k,x.w⟩/\v= .sb (aM x.A k).isSome
theorem xV(x:Ix)(k:Tx)(c:IxC)(G:Ob x c)(o:x.w<900000):ax KId 5 68 [.ptr 0 0,.ss k] (mkH (bM (ixO c) 0)) 4 (gm IxB ⟨dA x.A k,x.w⟩ (.sb (aM x.A k).isSome)):=by
 obtain⟨T,H,I⟩:=mkL;obtain⟨v,z,B,C,p,r,f⟩:=G;obtain⟨A,w⟩:=x;dsimp only at v p r f o⊢;subst v;cases d:aM c.1.A k with
 |none=>
  have e:=tX d;have q:gm IxB ⟨dA c.1.A k,w⟩ (.sb false) (.bool false) (mkH (bM (ixO c) 0)) 4:=⟨_,c,.told rfl,⟨e.symm,z,B,C,p,r,by rw[e];exact f⟩,sS rfl rfl rfl rfl⟩
  conv=>whnf
  refine Ask.mk _ (aZ bS mkA rfl rfl rfl F9 d) ?_
  conv=>whnf
  exact q
 |some l=>
  have J:l.length<=8:=rq (f _ (cY d)).2
  conv=>whnf
  refine Ask.mk _ (aZ bS mkA rfl rfl rfl F9 d) ?_
  conv=>whnf
  refine Ask.mk _ (aZ bS mkA rfl rfl rfl F9 d) ?_
  conv=>whnf
  refine aR.mk {t:Nat×MpC Lab (List Tx)×MpC Tx (List Tx)//t.1<=l.length/\(t.2.1.Ok/\Rows t.2.1 w)/\t.2.2.Ok/\Rows t.2.2 w} 4 (λt=>ixD k l t.val.1 (c.1,t.val.2)) (λt=>l.length-t.val.1) ⟨(0,c.2),Y5 _,⟨B,p⟩,C,r⟩ ?_ ?_
  focus
   exact Io (i:=0) (c:=c) (Z3 4) rfl rfl rfl rfl rfl rfl rfl rfl rfl
  intro⟨(i,a,b),D,⟨E,j⟩,F,n⟩;have D:i<=l.length:=D;have L:IntKind.i64.wrap ((i:Int)+1)=((i+1:Nat):Int):=by rw[ai (by omega) (by omega)];omega
  conv=>whnf
  refine ae.dec (λh=>?_) (λh=>?_)
  focus
   have s:i<l.length:=q0s.1 h;have u:l.length-(i+1)<l.length-i:=by omega
   have M:(BC ((aM a.A l[i]).getD []) k).length<=w:=Y7 (Il _ _) (j.get _);have N:(BC ((aM b.A l[i].1).getD []) k).length<=w:=Y7 (Il _ _) (n.get _);have O:((aM a.A l[i]).getD []).length<1000000:=Nat.lt_of_le_of_lt (j.get _) (by omega);have P:((aM b.A l[i].1).getD []).length<1000000:=Nat.lt_of_le_of_lt (n.get _) (by omega);have Q:=vn (k:=l[i]) E j M;have R:=vn (k:=l[i].1) F n N
   conv=>whnf
   refine Idx.mk i rfl s ?_
   conv=>whnf
   refine aw (pv s rfl) ?_
   conv=>whnf
   refine Ask.mk _ (aZ (m:=a) (g:=gS) (k:=l[i]) (Ij I) H rfl rfl rfl zTx rfl) ?_
   conv=>whnf
   refine⟨_,_,.cons (.opt (g:=gS) rfl _) (.cons .same .nil),⟨_,_,rfl,O,rfl⟩,?_⟩
   conv=>whnf
   refine⟨2,a,l[i],_,rfl,by decide,by decide,rfl,rfl,rfl,?_⟩
   conv=>whnf
   refine Ask.mk _ (aZ (m:=b) (g:=gS) (k:=l[i].1) bS mkN rfl rfl rfl zTx rfl) ?_
   conv=>whnf
   refine⟨_,_,.cons (.opt (g:=gS) rfl _) (.cons .same .nil),⟨_,_,rfl,P,rfl⟩,?_⟩
   conv=>whnf
   refine⟨3,b,l[i].1,_,rfl,by decide,by decide,rfl,rfl,rfl,?_⟩
   conv=>whnf
   exact⟨⟨(i+1,oq a l[i] (BC ((aM a.A l[i]).getD []) k),oq b l[i].1 (BC ((aM b.A l[i].1).getD []) k)),s,Q,R⟩,u,Io (i:=i+1) (c:=(c.1,oq a l[i] (BC ((aM a.A l[i]).getD []) k),oq b l[i].1 (BC ((aM b.A l[i].1).getD []) k))) (Z3 4) rfl rfl rfl rfl (congrArg (AV.si .i64) L) rfl rfl rfl rfl⟩
  have e:(c.1.del k).A=dA c.1.A k:=xU _ _;have q:Ob ⟨dA c.1.A k,w⟩ (c.1.del k,a,b):=⟨e,z.del k,E,F,j,n,λy S=>f y (BF (by rw[e];exact S))⟩
  conv=>whnf
  refine Ask.mk _ (tW (m:=c.1) bS mkA rfl rfl rfl) ?_
  conv=>whnf
  exact⟨_,(c.1.del k,a,b),.told rfl,q,sS rfl rfl rfl rfl⟩
theorem Of:ak 68 (cX 4 IxB Q1):=gu Oe 5 (by kernel_rfl) IxB rfl (by decide) λx cs g v ⟨k,a,b,d,e⟩=>by subst a d e;exact⟨rfl,rfl,λc f=>xV x k c f b⟩
theorem Og:ak 68 (iG 4 IxB Q1):=xT (ay Oe 5 _) (by kernel_rfl) IxB rfl (by decide) λx cs g v ⟨k,a,b,d,e⟩=>by subst a d e;exact⟨rfl,rfl,λc f=>xV x k c f b⟩
theorem Re.UL{H:AH}{n b j m k x:Nat}{l s:List AV}{z:Bool}{u:AV}(d:u= .rw b 0 j k x)(e:j=m)(f:H.get b=some (.cells l z))(g:s.all flat.flat1=true)(a:s.length=m*k)(c:l.map mk=s.map mk)(h:x≠4:=by decide):Re H n u (H.set none aa b) (.fr m k s):=by subst d e;exact Re.row f g a c h
def Kv(x:Ix)(cs:List AV)(v:AV):Prop:=∃k,cs=[.ss k]/\v= .sb (aM x.A k).isSome
theorem sT:ak 84 (eg 4 IxB Kv):=(gu az 3 (by kernel_rfl) IxB rfl (by decide) λx cs d v ⟨e,k,f,h⟩=>by
 subst e f h;refine⟨rfl,rfl,λc b=>?_⟩;have a:=b.A;obtain⟨A,w⟩:=d;dsimp only at a;subst a;cases a:aM c.1.A k with
 |none=>
  have q:gm IxB ⟨c.1.A,w⟩ (.sb false) (.bool false) (mkH (bM (ixO c) 0)) 4:=⟨_,c,.told rfl,b,sS rfl rfl rfl rfl⟩
  conv=>whnf
  refine Ask.mk _ (aZ (m:=c.1) (g:=gL) bS mkA rfl rfl rfl F9 a) ?_
  conv=>whnf
  exact q
 |some l=>
  have q:gm IxB ⟨c.1.A,w⟩ (.sb true) (.bool true) (mkH (bM (ixO c) 0)) 4:=⟨_,c,.told rfl,b,sS rfl rfl rfl rfl⟩
  conv=>whnf
  refine Ask.mk _ (aZ (m:=c.1) (g:=gL) bS mkA rfl rfl rfl F9 a) ?_
  conv=>whnf
  exact q).ol
def WX(x:Ix)(cs:List AV)(v:AV):Prop:=∃k,cs=[.ss k]/\v=gL ((aM x.A k).getD [])
theorem Q6:ak 87 (eg 4 IxB WX):=(gu az 3 (by kernel_rfl) IxB rfl (by decide) λx cs f v ⟨h,k,i,j⟩=>by
 subst h i j;refine⟨rfl,rfl,λc e=>?_⟩;have b:=e.A;have a:=e.lab;obtain⟨A,w⟩:=f;dsimp only at b a;subst b;cases b:aM c.1.A k with
 |none=>
  conv=>whnf
  refine Ask.mk _ (aZ (m:=c.1) (g:=gL) bS mkA rfl rfl rfl F9 b) ?_
  conv=>whnf
  exact⟨_,c,.nsl,e,sS rfl rfl rfl rfl⟩
 |some l=>
  have n:l.length<=8:=rq (a _ (cY b)).2;have d:(0+l.length)*32<=140737488355328:=by omega
  conv=>whnf
  refine Ask.mk _ (aZ (m:=c.1) (g:=gL) bS mkA rfl rfl rfl F9 b) ?_
  conv=>whnf
  refine bI.grow 2 32 _ _ _ _ _ _ WV .fr (jX l) (D4 l) .nsl d ?_
  conv=>whnf
  exact⟨_,c,Re.UL rfl (q0x _) rfl (p8 l) (jX l) rfl,e,sS rfl rfl rfl rfl⟩).ol
def pA (x:Ix) (k:Tx) (l:List Lab):Ix×AV:=if(iI k&&ew l)=true then(⟨gU (dA x.A k) k (b9 l),x.w+8⟩,.si .i64 0)else(x,.si .i64 1)
def WY(x:Ix)(cs:List AV)(a:Ix)(v:AV):Prop:=∃k l r,cs=[.ss k,gL l]/\l.length<=1000/\x.w<800000/\pA x k l=r/\a=r.1/\v=r.2/\gT v=true
def Q7:DT:=[(6,[(some 0,[0]),(some 0,[24]),(some 0,[25]),(some 0,[26]),(some 0,[1]),(some 0,[2]),(none,[29])]),
 (10,[(some 0,[0]),(some 0,[37]),(some 0,[38]),(some 0,[39]),(some 0,[8]),(some 0,[0]),(some 0,[42]),(some 0,[43]),(some 0,[44]),(some 0,[8]),(some 0,[45,46]),(some 0,[1]),(none,[47,48])]),
 (11,[(some 0,[0]),(some 0,[51]),(some 0,[52]),(some 0,[53]),(some 0,[8]),(some 0,[55]),(some 0,[0]),(some 0,[57]),(some 0,[58]),(some 0,[59]),(some 0,[8]),(some 0,[61]),(some 0,[60,62]),(some 0,[1]),(none,[63,64])])]
def KIs:FuncId->EP:=bg 107 Q7 (aq 68 (iG 4 IxB Q1) KIx)
theorem UM:aV KIs:=au (ag Ga Og) (by kernel_rfl) (by kernel_rfl)
theorem Yk{H:AH}{c:IxC}(a:H.get 0=some (.cells [.map 1,.map 2,.map 3] true))(b:H.get 1=some (c.1.O kT gL))(d:H.get 2=some (c.2.1.O kL gS))(e:H.get 3=some (c.2.2.O kT gS)):∀i o,(ixO c)[i]?=some o->H.get i=some o
 |0,o,h=>by injection h with h;subst h;exact a
 |1,o,h=>by injection h with h;subst h;exact b
 |2,o,h=>by injection h with h;subst h;exact d
 |3,o,h=>by injection h with h;subst h;exact e
 |i+4,o,h=>by simp[ixO]at h
def ixS (k:Tx) (l:List Lab) (i:Nat) (c:IxC):AE×AH:=(mkE [(0,.ptr 0 (0)),(1,.ss (k)),(31,.fr l.length 2 (cN l)),(32,.si .i64 ((l.length:Int))),(33,.si .i64 ((i:Int)))],mkH [(0,.cells [.map 1,.map 2,.map 3] true),(1,c.1.O kT gL),(2,c.2.1.O kL gS),(3,c.2.2.O kT gS)])
theorem Ip{k:Tx}{l:List Lab}{i:Nat}{c:IxC}{p n:Nat}{σ:AE}{H:AH}(e:p<=4)(f:aj (pa 0) σ= .ptr 0 (0))(g:mk (aj (pa 1) σ)= .ss (k))(a:aj (pa 31) σ= .fr l.length 2 (cN l))(b:mk (aj (pa 32) σ)= .si .i64 ((l.length:Int)))(d:mk (aj (pa 33) σ)= .si .i64 ((i:Int)))(h:H.get 0=some (.cells [.map 1,.map 2,.map 3] true))(j:H.get 1=some (c.1.O kT gL))(m:H.get 2=some (c.2.1.O kL gS))(o:H.get 3=some (c.2.2.O kT gS)):Cov p σ H n ((ixS k l i c).1,(ixS k l i c).2,4):=
 Cov.ofA e ⟨.ptr (by decide) f,.str g,ah.frE a,.int b,.int d,trivial⟩ ⟨.inl ⟨_,h,ao.refl rfl⟩,.inl ⟨_,j,ao.refl (bp eo Eb)⟩,.inl ⟨_,m,ao.refl (bp Ea og)⟩,.inl ⟨_,o,ao.refl (bp eo og)⟩,trivial⟩ rfl
theorem Kw(x:Ix)(k:Tx)(l:List Lab)(c:IxC)(F:Ob x c)(G:l.length<=1000)(M:x.w<800000){r:Ix×AV}(B:pA x k l=r):ax KIs 5 107 [.ptr 0 0,.ss k,gL l] (mkH (bM (ixO c) 0)) 4 (gm IxB r.1 r.2):=by
 have no:(iI k&&ew l)=false->gm IxB r.1 r.2 (.int .i64 1) (mkH (bM (ixO c) 0)) 4:=λe=>by
  subst B;unfold pA;rw[e];exact⟨_,c,.told rfl,F,sS rfl rfl rfl rfl⟩
 have H:iI k=false->gm IxB r.1 r.2 (.int .i64 1) (mkH (bM (ixO c) 0)) 4:=λe=>no (by rw[e];rfl)
 have I:ew l=false->gm IxB r.1 r.2 (.int .i64 1) (mkH (bM (ixO c) 0)) 4:=λe=>no (by rw[e,Bool.and_false])
 conv=>whnf
 refine⟨_,_,_,.cons .same .nil,⟨k,rfl,rfl⟩,?_⟩
 conv=>whnf
 refine ae.nsb (λC=>?_) (λC=>?_)
 focus
  have q:=H C
  conv=>whnf
  exact q
 conv=>whnf
 refine⟨_,_,_,.cons .same .nil,⟨l,rfl,G,rfl⟩,?_⟩
 conv=>whnf
 refine ae.nsb (λz2=>?_) (λz2=>?_)
 focus
  have q:=I z2
  conv=>whnf
  exact q
 have B:r=(⟨gU (dA x.A k) k (b9 l),x.w+8⟩,.si .i64 0):=by rw[<-B];unfold pA;rw[C,z2];rfl
 have N:l.length<=8:=rq z2;have o:x.w<900000:=by omega
 subst B;clear no H I;obtain⟨fs,O,P⟩:=mkL
 conv=>whnf
 refine⟨x,[.ss k],_,_,_,c,rfl,by decide,.cons .same .nil,F,Yk rfl rfl rfl rfl,⟨k,rfl,o,rfl,rfl⟩,λf a=>?_⟩;have p:f.1.A=dA x.A k:=a.A
 conv=>whnf
 refine⟨_,_,.cons .same .nil,⟨l,rfl,G,rfl⟩,?_⟩
 conv=>whnf
 refine Ask.mk _ (xS (m:=f.1) (g:=gL) (v:=b9 l) (k:=k) bS mkA rfl rfl (congrArg (λn=>AV.fr n 2 (cN (b9 l))) (rv l).length_eq.symm) rfl) ?_
 conv=>whnf
 refine aR.mk {t:Nat×MpC Lab (List Tx)×MpC Tx (List Tx)//t.1<=l.length/\(t.2.1.Ok/\Rows t.2.1 (x.w+t.1))/\t.2.2.Ok/\Rows t.2.2 (x.w+t.1)} 4 (λt=>ixS k l t.val.1 (f.1.put k (b9 l),t.val.2)) (λt=>l.length-t.val.1) ⟨(0,f.2),Y5 _,⟨a.o2,a.r2⟩,a.o3,a.r3⟩ ?_ ?_
 focus
  exact Ip (i:=0) (c:=(f.1.put k (b9 l),f.2)) (Z3 4) rfl rfl rfl rfl rfl rfl rfl rfl rfl
 intro⟨(i,b,d),J,⟨K,s⟩,L,u⟩;have J:i<=l.length:=J;have s:Rows b (x.w+i):=s;have u:Rows d (x.w+i):=u;have Q:IntKind.i64.wrap ((i:Int)+1)=((i+1:Nat):Int):=by rw[ai (by omega) (by omega)];omega
 conv=>whnf
 refine ae.dec (λh=>?_) (λh=>?_)
 focus
  have D:i<l.length:=q0s.1 h;have E:l.length-(i+1)<l.length-i:=by omega
  have R:=s.get l[i];have S:=u.get l[i].1;have T:(oo ((aM b.A l[i]).getD []) k).length<=x.w+(i+1):=by have:=xO ((aM b.A l[i]).getD []) k;omega
  have U:(oo ((aM d.A l[i].1).getD []) k).length<=x.w+(i+1):=by have:=xO ((aM d.A l[i].1).getD []) k;omega
  have V:((aM b.A l[i]).getD []).length<1000000:=by omega
  have W:((aM d.A l[i].1).getD []).length<1000000:=by omega
  have X:=vn (k:=l[i]) K (s.le (w':=x.w+(i+1)) (by omega)) T;have Z:=vn (k:=l[i].1) L (u.le (w':=x.w+(i+1)) (by omega)) U;clear R S
  conv=>whnf
  refine Idx.mk i rfl D ?_
  conv=>whnf
  refine aw (pv D rfl) ?_
  conv=>whnf
  refine Ask.mk _ (aZ (m:=b) (g:=gS) (k:=l[i]) (Ij P) O rfl rfl rfl zTx rfl) ?_
  conv=>whnf
  refine⟨_,_,.cons (.opt (g:=gS) rfl _) (.cons .same .nil),⟨_,_,rfl,V,rfl⟩,?_⟩
  conv=>whnf
  refine⟨2,b,l[i],_,rfl,by decide,by decide,rfl,rfl,rfl,?_⟩
  conv=>whnf
  refine Ask.mk _ (aZ (m:=d) (g:=gS) (k:=l[i].1) bS mkN rfl rfl rfl zTx rfl) ?_
  conv=>whnf
  refine⟨_,_,.cons (.opt (g:=gS) rfl _) (.cons .same .nil),⟨_,_,rfl,W,rfl⟩,?_⟩
  conv=>whnf
  refine⟨3,d,l[i].1,_,rfl,by decide,by decide,rfl,rfl,rfl,?_⟩
  conv=>whnf
  exact⟨⟨(i+1,oq b l[i] (oo ((aM b.A l[i]).getD []) k),oq d l[i].1 (oo ((aM d.A l[i].1).getD []) k)),D,X,Z⟩,E,Ip (i:=i+1) (c:=(f.1.put k (b9 l),oq b l[i] (oo ((aM b.A l[i]).getD []) k),oq d l[i].1 (oo ((aM d.A l[i].1).getD []) k))) (Z3 4) rfl rfl rfl rfl (congrArg (AV.si .i64) Q) rfl rfl rfl rfl⟩
 have e:(f.1.put k (b9 l)).A=gU (dA x.A k) k (b9 l):=by rw[Ik,p]
 have z:x.w+i<=x.w+8:=by omega
 have q:Ob ⟨gU (dA x.A k) k (b9 l),x.w+8⟩ (f.1.put k (b9 l),b,d):=⟨e,a.o1.put k _,K,L,s.le z,u.le z,λy j=>by
  have j:y∈gU (dA x.A k) k (b9 l):=j;rw[<-e]at j;rcases sR j with rfl|j
  ·exact⟨C,(D6 (rv l)).trans z2⟩
  ·rw[p]at j;exact a.lab y j⟩
 conv=>whnf
 exact⟨_,(f.1.put k (b9 l),b,d),.told rfl,q,sS rfl rfl rfl rfl⟩
theorem Q8:ak 107 (cX 4 IxB WY):=gu UM 5 (by kernel_rfl) IxB rfl (by decide) λx cs j v ⟨k,l,r,a,b,d,e,f,g,h⟩=>by subst a f g;exact⟨rfl,h,λc i=>Kw x k l c i b d e⟩
section
variable {K V:Type}
def jb(A:List (K×V))(I:List Nat):List (K×V):=I.filterMap λi=>A[i]?
def fH(bs:List Nat)(I:List Nat):List Nat:=I.filterMap λi=>bs[i]?
structure RgI(m:MpC K V)(I:List Nat):Prop where
 nd:I.Nodup
 lt:∀i∈I,i<m.A.length
theorem RgI.nil{m:MpC K V}:RgI m []:=⟨.nil,λi h=>(by cases h)⟩
theorem RgI.len{m:MpC K V}{I:List Nat}(h:RgI m I):I.length<=m.A.length:=by
 have a:I.Nodup/\I⊆List.range m.A.length:=⟨h.nd,λi b=>q2m.2 (h.lt i b)⟩;have:=List.Nodup.length_le_of_subset a.1 a.2;rwa [List.length_range]at this
theorem Ec{A:List (K×V)}{I:List Nat}{i:Nat}(h:i<A.length):jb A (I++ [i])=jb A I++ [A[i]]:=by
 unfold jb;rw[List.filterMap_append];simp[Y0 h]
theorem qa{bs:List Nat}{I:List Nat}{i x:Nat}(h:bs[i]?=some x):fH bs (I++ [i])=fH bs I++ [x]:=by
 unfold fH;rw[List.filterMap_append];simp[h]
theorem RgI.step{m:MpC K V}{I:List Nat}(h:RgI m I){i x:Nat}(g:i<m.A.length)(k:m.bs[i]?=some x)(hn:x∉fH m.bs I):RgI m (I++ [i])/\i∉I:=by
 have d:i∉I:=λq=>hn (q2r.2 ⟨i,q,k⟩)
 refine⟨⟨?_,λj c=>?_⟩,d⟩
 ·rw[q3s];exact⟨h.nd,by simp,λa l b f=>by simp at f;subst f;exact λe=>d (e▸l)⟩
 ·rcases q1e.1 c with c|c
  ·exact h.lt j c
  ·simp at c;subst c;exact g
theorem Kx(A:List (K×V)):jb A (List.range A.length)=A:=by
 unfold jb
 have:∀(n:Nat),n<=A.length->(List.range n).filterMap (λi=>A[i]?)=A.take n:=λn=>by
  induction n with
  |zero=>intro _;simp
  |succ n a=>
   intro b;rw[List.range_succ,List.filterMap_append,a (by omega),Y8 (by omega)];simp[Y0 (show n<A.length by omega)]
 rw[this _ (Z3 _),q0l]
theorem RgI.uV{m:MpC K V}{I:List Nat}(h:RgI m I)(ho:m.bs.Nodup)(o:m.bs.length=m.A.length)(d:∀x∈m.bs,x∈fH m.bs I):(jb m.A I).Perm m.A/\I.length=m.A.length:=by
 have a:I.Perm (List.range m.A.length):=(List.perm_ext_iff_of_nodup h.nd List.nodup_range).2 λi=>by
  refine⟨λhi=>q2m.2 (h.lt i hi),λhi=>?_⟩;have hi:=q2m.1 hi;have f:=d _ (q0g (l:=m.bs) (n:=i) (by omega));obtain⟨j,p,e⟩:=q2r.1 f;obtain⟨g,k⟩:=Y6.1 e;have:j=i:=(List.getElem_inj (h₀:=g) (h₁:=by omega) ho).1 k;rwa [<-this]
 refine⟨?_,by rw[a.length_eq,List.length_range]⟩;have:=a.filterMap (λi=>m.A[i]?);rw[show(List.range m.A.length).filterMap (λi=>m.A[i]?)=m.A from Kx m.A]at this;exact this
theorem BG{A:List (K×V)}{I:List Nat}{e:K×V}(h:e∈jb A I):e∈A:=by
 obtain⟨j,_,a⟩:=q2r.1 h;exact q0j a
theorem vo{m:MpC K V}{I:List Nat}(h:RgI m I):(jb m.A I).length=I.length:=by
 have:∀(I:List Nat),(∀i∈I,i<m.A.length)->(jb m.A I).length=I.length:=λI=>by
  induction I with
  |nil=>intro _;rfl
  |cons i I b=>
   intro a;unfold jb;rw[List.filterMap_cons];rw[Y0 (a i q0b)];simp only[Z9];exact congrArg (·+1) (b λj c=>a j (Y4 _ c))
 exact this I h.lt
end
theorem ao.Iq{H:AH}{m:Nat}{r:Nat->Nat}{b k:Nat}{seen:List Nat}(c:b<m)(d:r b=b):ao H m r (.iter b k seen) (.iter b k seen):=
 ⟨⟨rfl,rfl⟩,λh i p j a _ ⟨e,q,f,g⟩=>⟨e,q,by rw[a.1 b c,d];exact f,g⟩⟩
theorem ao.cm{H:AH}{m k:Nat}{r:Nat->Nat}{o:AO}(h:ltO k o=true)(d:k<=m)(g:∀b,b<k->r b=b):ao H m r o o:=⟨⟨rfl,rfl⟩,λi j _ _ a _ ho=>OR.below (m:=k) (λb _ c e=>(a.1 b (q1a c d)).trans ((congrArg i.f (g b c)).trans e)) a.2 h ho⟩
theorem iv{V W:List Tx}(h:V.Perm W):aI V=aI W:=tS (bj V).1 (bj W).1 λs=>by rw[(bj V).2,(bj W).2];exact h.mem_iff
def WZ(x:Ix)(cs:List AV)(v:AV):Prop:=cs=[]/\x.A.length<=900000/\v=gS (aI (x.A.map Prod.fst))
def ixK (c:IxC) (I:List Nat) (V:List Tx):AE×AH:=(mkE [(3,.rw 5 0 V.length 1 0),(11,.ptr 4 (0))],mkH [(0,.cells [.map 1,.map 2,.map 3] true),(1,c.1.O kT gL),(2,c.2.1.O kL gS),(3,c.2.2.O kT gS),(4,AO.iter 1 c.1.cl (fH c.1.bs I)),(5,.cells (strs (V)) true)])
theorem Ir{c:IxC}{I:List Nat}{V:List Tx}{p n:Nat}{σ:AE}{H:AH}(a:Nat)(v:a≠0/\a≠1/\a≠2/\a≠3/\a≠4)(w:p<=4)(j:ah H 6 (λb=>if b=5 then a else b) (aj (pa 3) σ) (.rw 5 0 V.length 1 0))(e:aj (pa 11) σ= .ptr 4 (0))(m:H.get 0=some (.cells [.map 1,.map 2,.map 3] true))(o:H.get 1=some (c.1.O kT gL))(r:H.get 2=some (c.2.1.O kL gS))(s:H.get 3=some (c.2.2.O kT gS))(t:H.get 4=some (AO.iter 1 c.1.cl (fH c.1.bs I)))(u:(∃l,H.get a=some (.cells l true)/\l.map mk=strs (V))∨((V)=[]/\n<=a)):Cov p σ H n ((ixK c I V).1,(ixK c I V).2,6):=
 Cov.ofB (λb=>if b=5 then a else b) (by omega) (λb d=>by repeat' rw[if_neg (by omega)]) ⟨j,.ptr (by decide) e,trivial⟩ ⟨.inl ⟨_,m,ao.cm (k:=4) rfl (by decide) (λb d=>if_neg (by omega))⟩,.inl ⟨_,o,ao.cm (k:=0) (bp eo Eb) (by decide) (λb d=>absurd d (q0n b))⟩,.inl ⟨_,r,ao.cm (k:=0) (bp Ea og) (by decide) (λb d=>absurd d (q0n b))⟩,.inl ⟨_,s,ao.cm (k:=0) (bp eo og) (by decide) (λb d=>absurd d (q0n b))⟩,.inl ⟨_,t,ao.Iq (by decide) rfl⟩,u.elim (λ⟨l,h,g⟩=> .inl ⟨_,h,ao.bA (ck _) (by rw[g,di]) (λq=>q)⟩) (λh=> .inr ⟨by rw[h.1];rfl,h.2⟩),trivial⟩ rfl (λx f y i=>by simp only[Z4,Z5,or_false]at f i;rcases f with rfl|rfl|rfl|rfl|rfl|rfl<;>rcases i with rfl|rfl|rfl|rfl|rfl|rfl<;>simp<;>omega)
theorem Oh:ak 65 (eg 4 IxB WZ):=(gu Ga 4 (by kernel_rfl) IxB rfl (by decide) λx cs r v ⟨t,u,w,y⟩=>by
 subst t u y;refine⟨rfl,rfl,λc d=>?_⟩;have n:=d.A;have J:c.1.A.length<=900000:=by rw[n];exact w
 conv=>whnf
 refine aR.mk {I:List Nat//RgI c.1 I} 6 (λI=>ixK c I.val ((jb c.1.A I.val).map Prod.fst)) (λI=>c.1.A.length-I.val.length) ⟨[],.nil⟩ ?_ ?_
 focus
  exact Ir (I:=[]) (V:=(jb c.1.A []).map Prod.fst) (c:=c) 5 (by decide) (Z3 4) (.iU rfl) rfl rfl rfl rfl rfl rfl (.inr ⟨rfl,Z3 _⟩)
 intro⟨I,j⟩;have o:((jb c.1.A I).map Prod.fst).length+1<=900001:=by rw[Y9,vo j];have:=j.len;omega
 have b:(((jb c.1.A I).map Prod.fst).length+1)*16<=140737488355328:=by omega
 have B:bl (strs ((jb c.1.A I).map Prod.fst)) 0 (((jb c.1.A I).map Prod.fst).length*1)=some (strs ((jb c.1.A I).map Prod.fst)):=bC (by rw[br,q0p])
 conv=>whnf
 refine Nxt.mp 4 1 c.1.cl _ _ _ rfl rfl rfl rfl d.o1.lt (λho=>?_) (λi e x p k C=>?_)
 focus
  obtain⟨D,L⟩:=j.uV d.o1.nd d.o1.len ho;have E:aI ((jb c.1.A I).map Prod.fst)=aI (r.A.map Prod.fst):=by rw[<-n];exact iv (D.map _)
  have F:((jb c.1.A I).map Prod.fst).length<=1000000:=by omega
  conv=>whnf
  refine⟨_,_,_,.cons (.row (l:=strs ((jb c.1.A I).map Prod.fst)) (z:=true) rfl (ck _) (by rw[br,q0p]) rfl) .nil,⟨_,rfl,F,rfl⟩,?_⟩
  conv=>whnf
  exact⟨_,c,by rw[E];exact .same,d,sS rfl rfl rfl rfl⟩
 obtain⟨f,rfl⟩:=vm p;obtain⟨g,M⟩:=j.step f k C;have G:fH c.1.bs I++ [x]=fH c.1.bs (I++ [i]):=(qa k).symm;have q:(jb c.1.A I).map Prod.fst++ [c.1.A[i].1]=(jb c.1.A (I++ [i])).map Prod.fst:=by rw[Ec f,q0r];rfl
 have H:c.1.A.length-(I++ [i]).length<c.1.A.length-I.length:=by have:=g.len;simp only[Z6,q2l]at this⊢;omega
 have a:(strs ((jb c.1.A I).map Prod.fst)++ [AV.ss c.1.A[i].1]).map mk=strs ((jb c.1.A (I++ [i])).map Prod.fst):=by rw[<-q];exact ez _ _
 have h:((jb c.1.A I).map Prod.fst).length+1=((jb c.1.A (I++ [i])).map Prod.fst).length:=by rw[<-q,Z6];rfl
 have m:=d.o1.nd
 conv=>whnf
 refine Ent.mp 4 1 c.1.cl i x (fH c.1.bs I) (jv kT gL c.1.A) c.1.bs _ rfl rfl rfl m k p ?_
 conv=>whnf
 refine bI.grow 1 16 _ _ _ _ _ _ tyT (.old rfl) rfl rfl (.rw rfl B) b ?_
 conv=>whnf
 exact⟨⟨I++ [i],g⟩,H,Ir (I:=I++ [i]) (V:=(jb c.1.A (I++ [i])).map Prod.fst) (c:=c) 7 (by decide) (Z3 4) (.rw (by decide) rfl h) rfl rfl rfl rfl rfl (congrArg (λs=>some (AO.iter 1 c.1.cl s)) G) (.inl ⟨_,rfl,a⟩)⟩).ol
def Yl:IxC:=(MpC.no,MpC.no,MpC.no)
theorem Q9:ak 51 (uI 4 IxB λcs y=>cs=[]/\y=⟨[],0⟩):=N4 (ay az 3 _) (by kernel_rfl) IxB rfl (by decide) λcs y ⟨f,g⟩=>by
 subst f g;refine⟨rfl,?_⟩
 conv=>whnf
 refine⟨Yl,⟨rfl,MpC.D9,MpC.D9,MpC.D9,λ_ h=>(by cases h),λ_ h=>(by cases h),λ_ h=>(by cases h)⟩,Cov.ofR (λb=>if b=0 then 3 else b-1) (Y5 _) (λb j=>absurd j (q0n b)) (λx c=>?_) (λx c=>?_) (λx c y d e=>?_)⟩
 ·simp only[Z4,Z5,or_false]at c;subst c;exact .ptr (by decide) rfl
 ·simp only[bM,ixO,IxB,Z4,Z5,or_false]at c;rcases c with rfl|rfl|rfl|rfl
  ·refine⟨by decide,.inl ⟨_,rfl,.cells (Z3 _) id λi k a=>?_⟩⟩
   match i,a with
   |0,a=>injection a with a;subst a;exact⟨_,rfl,.map (by decide) rfl⟩
   |1,a=>injection a with a;subst a;exact⟨_,rfl,.map (by decide) rfl⟩
   |2,a=>injection a with a;subst a;exact⟨_,rfl,.map (by decide) rfl⟩
   |i+3,a=>simp at a
  ·exact⟨by decide,.inl ⟨_,rfl,.Oa⟩⟩
  ·exact⟨by decide,.inl ⟨_,rfl,.Oa⟩⟩
  ·exact⟨by decide,.inl ⟨_,rfl,.Oa⟩⟩
 ·simp only[bM,ixO,IxB,Z4,Z5,or_false]at c d;rcases c with rfl|rfl|rfl|rfl<;>rcases d with rfl|rfl|rfl|rfl<;>simp at e⊢
structure Rl where
 src:Tx
 dst:Tx
 kind:Int
 size:Int
 align:Int
deriving DecidableEq
def ruC(r:Rl):List AV:=[.ss r.src,.ss r.dst,.si .i64 r.kind,.si .i64 r.size,.si .i64 r.align]
def gR(r:Rl):AV:= .agg (ruC r)
def ruL(L:List Rl):List AV:=L.flatMap ruC
theorem sU(r:Rl)(L:List Rl):ruL (r::L)=ruC r++ruL L:=rfl
theorem jw(L:List Rl):(ruL L).length=L.length*5:=by
 induction L with
 |nil=>rfl
 |cons r L a=>rw[sU];simp only[Z6,Z9,a];show 5+_=_;omega
theorem ja(L:List Rl):(ruL L).all flat.flat1=true:=by
 induction L with
 |nil=>rfl
 |cons r L a=>rw[sU,List.all_append,a];rfl
theorem dH(L:List Rl):(ruL L).map mk=ruL L:=by
 induction L with
 |nil=>rfl
 |cons r L a=>rw[sU,q0r,a];rfl
theorem xW(L:List Rl)(r:Rl):(ruL L++ruC r).map mk=ruL (L++ [r]):=by
 have:ruL (L++ [r])=ruL L++ruC r:=by
  show(L++ [r]).flatMap ruC=_;rw[List.flatMap_append];simp[ruL]
 rw[this,q0r,dH];rfl
theorem Ed:∀(L:List Rl) (i:Nat),(ruL L).drop (i*5)=ruL (L.drop i)
 |L,0=>by simp
 | [],i+1=>by simp[ruL]
 |r::L,i+1=>by
  rw[show(i+1)*5=i*5+1+1+1+1+1 by omega];exact Ed L i
theorem vp{L:List Rl}{i o:Nat}(h:i<L.length)(ho:o=i*5):bl (ruL L) o 5=some (ruC L[i]):=by
 subst ho;unfold bl;rw[q0u (by rw[jw];omega),Ed,q0k h,sU];rfl
theorem UN:RTy 38 38 5 56:=⟨_,_,_,rfl,rfl,(λq h=>by cases h),rfl,rfl,rfl,rfl,by decide,by decide⟩
def xX(r:Rl):Bool:=decide (1<=r.size/\r.size<=1099511627776/\0<=r.align/\r.align<r.size)
def bk(r:Rl):Bool:=xX r&&(iI r.src&&(iI r.dst&&(!decide (r.src=r.dst)&&kg r.kind)))
def UO(cs:List AV)(v:AV):Prop:=∃r:Rl,cs=[gR r]/\v= .sb (bk r)
theorem Ra{P:Program}{t:TypeId}{H:AH}{xs a:List AV}{pl:List (Nat×Nat)}{q:Bool}(b:iM P t=some pl)(c:jJ xs a pl=some q):yw P .eql t (.agg xs) (.agg a) H=some (.bool q):=by
 show qt .eql ((iM P t).bind (jJ xs a))=_;rw[b];show qt .eql (jJ xs a pl)=_;rw[c];rfl
theorem W0:iM Tryz.prog 32=some [(1,0),(1,1),(0,2),(0,3),(0,4)]:=by kernel_rfl
def KRr:FuncId->EP:=aq 105 (db D5) (aq 149 (rY kg) evP)
theorem UP:aV KRr:=ag (ag az GO) Ic
theorem UQ(r:Rl):jJ [.str r.src,.str r.dst,.int .i64 r.kind,.int .i64 r.size,.int .i64 r.align] [.str r.src,.str r.dst,.int .i64 r.kind,.int .i64 (max 1 (min r.size 1099511627776)),.int .i64 (max 0 (min r.align (IntKind.i64.wrap (r.size-1))))] [(1,0),(1,1),(0,2),(0,3),(0,4)]=some (xX r):=by
 have e:jJ [.str r.src,.str r.dst,.int .i64 r.kind,.int .i64 r.size,.int .i64 r.align] [.str r.src,.str r.dst,.int .i64 r.kind,.int .i64 (max 1 (min r.size 1099511627776)),.int .i64 (max 0 (min r.align (IntKind.i64.wrap (r.size-1))))] [(1,0),(1,1),(0,2),(0,3),(0,4)]=some (dR r.src r.src&&(dR r.dst r.dst&&(decide (r.kind=r.kind)&&(decide (r.size=max 1 (min r.size 1099511627776))&&(decide (r.align=max 0 (min r.align (IntKind.i64.wrap (r.size-1))))&&true))))):=by
  simp[jJ,nth]
 rw[e,bE.2 rfl,bE.2 rfl,decide_eq_true (rfl:r.kind=r.kind)];congr 1;unfold xX;rw[q2p];simp only[Bool.true_and,Bool.and_true,Z8,decide_eq_true_eq];constructor
 ·rintro⟨b,a⟩;rw[ai (by omega) (by omega)]at a;omega
 ·rintro⟨b,a,c,d⟩;rw[ai (by omega) (by omega)];omega
attribute [local irreducible] iM
theorem W3:ak 89 (db UO):=pn UP 4 (by kernel_rfl) λcs v ⟨r,k,l⟩=>by
 subst k l;have q:=UQ r;have m:xX r=false->bk r=false:=λz=>by unfold bk;rw[z];rfl
 have n:iI r.src=false->bk r=false:=λz=>by unfold bk;rw[z];simp
 have o:iI r.dst=false->bk r=false:=λz=>by unfold bk;rw[z];simp
 have p:dR r.src r.dst=true->bk r=false:=λz=>by unfold bk;rw[decide_eq_true (bE.1 z)];simp
 have s:xX r=true->iI r.src=true->iI r.dst=true->dR r.src r.dst=false->bk r=kg r.kind:=λa b c d=>by
  have:r.src≠r.dst:=λe=>by rw[bE.2 e]at d;cases d
  unfold bk;rw[a,b,c,decide_eq_false this];rfl
 refine⟨rfl,rfl,?_⟩
 conv=>whnf
 generalize j:yw _ _ _ _ _ _=E;have f:E=some (.bool (xX r)):=j.symm.trans (Ra W0 q);clear j;subst f
 conv=>whnf
 refine ae.sb (λg=>?_) (λg=>?_)
 ·conv=>whnf
  refine⟨_,_,_,.cons .same .nil,⟨_,rfl,rfl⟩,?_⟩
  conv=>whnf
  refine ae.sb (λh=>?_) (λh=>?_)
  ·conv=>whnf
   refine⟨_,_,_,.cons .same .nil,⟨_,rfl,rfl⟩,?_⟩
   conv=>whnf
   refine ae.sb (λz2=>?_) (λz2=>?_)
   ·conv=>whnf
    refine ae.nsb (λi=>?_) (λi=>?_)
    ·have e:=s g h z2 i
     conv=>whnf
     exact dG.told (congrArg AV.sb e.symm)
    ·have e:=p i
     conv=>whnf
     exact dG.told (congrArg AV.sb e.symm)
   ·have e:=o z2
    conv=>whnf
    exact dG.told (congrArg AV.sb e.symm)
  ·have e:=n h
   conv=>whnf
   exact dG.told (congrArg AV.sb e.symm)
 ·have e:=m g
  conv=>whnf
  exact dG.told (congrArg AV.sb e.symm)
abbrev Gr:=List (Tx×Rl)
abbrev GrC:=MpC Tx Rl
def zR:Rl:=⟨[],[],0,0,0⟩
theorem oh{j:Nat}(r:Rl):ltV j (gR r)=true:=rfl
structure Ky(x:Gr)(c:GrC):Prop where
 A:c.A=x
 o:c.Ok
 dst:∀e∈x,e.2.dst=e.1
 lab:∀e∈x,bk e.2=true
def grO(c:GrC):List AO:=[.cells [.map 1] true,c.O kT gR]
def GrB:Obj Gr GrC where
 ok:=Ky
 O:=grO
 k:=2
 len _:=rfl
 own c o h:=by
  simp only[grO,Z4,Z5,or_false]at h;rcases h with rfl|rfl
  ·exact⟨rfl,rfl⟩
  ·exact⟨rfl,bp eo oh⟩
 pos c:=⟨_,_,_,rfl⟩
theorem mW{H:AH}{c:GrC}(a:H.get 0=some (.cells [.map 1] true))(b:H.get 1=some (c.O kT gR)):yA H 2 (grO c) 0:=⟨⟨_,a,.refl rfl⟩,⟨_,b,.refl (bp eo oh)⟩,trivial⟩
theorem Ym{H:AH}{c:GrC}(a:H.get 0=some (.cells [.map 1] true))(b:H.get 1=some (c.O kT gR)):∀i o,(grO c)[i]?=some o->H.get i=some o
 |0,o,h=>by injection h with h;subst h;exact a
 |1,o,h=>by injection h with h;subst h;exact b
 |i+2,o,h=>by simp[grO]at h
theorem mkR:dW Tryz.prog 167=some (9,.string,32):=by kernel_rfl
theorem lC:cZ Tryz.prog 32=some (.agg #[.string ⟨#[]⟩,.string ⟨#[]⟩,.int .i64 0,.int .i64 0,.int .i64 0]):=by kernel_rfl
def rul(R:Gr)(d:Tx):Rl:=(aM R d).getD zR
def pkS (N:List Tx) (R:Gr) (s:Tx):List Rl:=(N.filter λd=>decide ((rul R d).src=s)).map (rul R)
def pkF (R:Gr) (so:Rl->Bool):List Rl:=(aI ((R.filter λe=>so e.2).map λe=>e.2.src)).flatMap (pkS (aI ((R.filter λe=>so e.2).map Prod.fst)) R)
theorem vq{R:Gr}{so:Rl->Bool}(h:(R.map Prod.fst).Nodup)(hd:∀e∈R,e.2.dst=e.1)(r:Rl):r∈pkF R so<->(r.dst,r)∈R/\so r=true:=by
 unfold pkF pkS;simp only[List.mem_flatMap,q0t,q1c,(bj _).2,decide_eq_true_eq];constructor
 ·rintro⟨s,⟨e,⟨b,c⟩,l⟩,d,⟨⟨a,⟨f,j⟩,k⟩,m⟩,i⟩;subst k;have g:aM R a.1=some a.2:=fb h f;have:rul R a.1=a.2:=by unfold rul;rw[g];rfl
  rw[this]at i;subst i;exact⟨by rw[hd a f];exact f,j⟩
 ·rintro⟨b,c⟩;have g:aM R r.dst=some r:=fb h b;have:rul R r.dst=r:=by unfold rul;rw[g];rfl
  exact⟨r.src,⟨(r.dst,r),⟨b,c⟩,rfl⟩,r.dst,⟨⟨(r.dst,r),⟨b,c⟩,rfl⟩,by rw[this]⟩,this⟩
theorem nR{a:Type}{p:a->Bool}(L:List a):(L.filter p).length<=L.length:=q0y _ _
theorem vr{a c:Type}{f:a->List c}{b:Nat}:∀{L:List a},(∀x∈L,(f x).length<=b)->(L.flatMap f).length<=L.length*b
 | [],_=>by simp
 |x::L,h=>by
  rw[q4k,Z6,Z9,q2g,Nat.one_mul];have e:=h x q0b;have g:=vr (L:=L) λy d=>h y (Y4 _ d)
  omega
theorem xY{N:List Tx}{R:Gr}{s:Tx}{j:Nat}(h:j<N.length):pkS (N.take (j+1)) R s=pkS (N.take j) R s++if(rul R N[j]).src=s then [rul R N[j]]else []:=by
 unfold pkS;rw[Y8 h,q2i,q0r];congr 1;by_cases q:(rul R N[j]).src=s
 ·simp[q]
 ·simp[q]
theorem ah.cm{H:AH}{m k:Nat}{r:Nat->Nat}{a:AV}(h:ltV k a=true)(g:k<=m)(i:∀b,b<k->r b=b):ah H m r a a:=λj n v c _ l=>VR.below (m:=k) (λb _ d e=>(c.1 b (q1a d g)).trans ((congrArg j.f (i b d)).trans e)) c.2 a v h l
theorem ah.dj{H:AH}{m k:Nat}{r:Nat->Nat}{a c:AV}(e:a=c)(h:ltV k c=true)(d:k<=m)(f:∀b,b<k->r b=b):ah H m r a c:=by subst e;exact ah.cm h d f
def soV(A:Gr)(so:Rl->Bool)(I:List Nat):Gr:=(jb A I).filter λe=>so e.2
theorem xZ{A:Gr}{so:Rl->Bool}{I:List Nat}{i:Nat}(h:i<A.length):soV A so (I++ [i])=soV A so I++if so A[i].2=true then [A[i]]else []:=by
 unfold soV;rw[Ec h,q2i];congr 1;by_cases q:so A[i].2=true
 ·simp[q]
 ·simp[q]
def KPk:FuncId->EP:=bg 111 [(8,[(some 1000000,[2,6,3,6,2,7,3,7]),(none,[0,1,2,3,4,5,6,7,8,9,10]),(none,[0,1,2,4,5,6,3,7,8,9,10]),(none,[0,1,2,4,5,6,7,3,8,9,10]),(none,[0,1,4,5,6,2,3,7,8,9,10]),(none,[0,1,4,5,6,2,7,3,8,9,10]),(none,[0,1,4,5,6,7,2,3,8,9,10])])] (aq 124 (db UG) evP)
theorem BH:aV KPk:=au (ag az SD) (by kernel_rfl) (by kernel_rfl)
def Oi (c:GrC) (I:List Nat) (V:List Tx) (W:List Tx):AE×AH:=(mkE [(0,.ptr 0 (0)),(1,AV.fn 112 [] []),(5,.rw 8 0 V.length 1 0),(6,.rw 9 0 W.length 1 0),(20,.ptr 2 (0))],mkH [(0,.cells [.map 1] true),(1,c.O kT gR),(2,AO.iter 1 c.cl (fH c.bs I)),(8,.cells (strs (V)) true),(9,.cells (strs (W)) true)])
theorem jx{c:GrC}{I:List Nat}{V:List Tx}{W:List Tx}{p n:Nat}{σ:AE}{H:AH}(a:Nat)(d:Nat)(A:a≠0/\a≠1/\a≠2/\a≠d/\d≠0/\d≠1/\d≠2)(B:p<=2)(m:aj (pa 0) σ= .ptr 0 (0))(o:ah H 10 (λb=>if b=8 then a else if b=9 then d else b) (aj (pa 1) σ) (AV.fn 112 [] []))(r:ah H 10 (λb=>if b=8 then a else if b=9 then d else b) (aj (pa 5) σ) (.rw 8 0 V.length 1 0))(s:ah H 10 (λb=>if b=8 then a else if b=9 then d else b) (aj (pa 6) σ) (.rw 9 0 W.length 1 0))(e:aj (pa 20) σ= .ptr 2 (0))(t:H.get 0=some (.cells [.map 1] true))(u:H.get 1=some (c.O kT gR))(v:H.get 2=some (AO.iter 1 c.cl (fH c.bs I)))(w:(∃l,H.get a=some (.cells l true)/\l.map mk=strs (V))∨((V)=[]/\n<=a))(z:(∃l,H.get d=some (.cells l true)/\l.map mk=strs (W))∨((W)=[]/\n<=d)):Cov p σ H n ((Oi c I V W).1,(Oi c I V W).2,10):=
 Cov.ofB (λb=>if b=8 then a else if b=9 then d else b) (by omega) (λb f=>by repeat' rw[if_neg (by omega)]) ⟨.ptr (by decide) m,o,r,s,.ptr (by decide) e,trivial⟩ ⟨.inl ⟨_,t,ao.cm (k:=2) rfl (by decide) (λb f=>by rw[if_neg (by omega),if_neg (by omega)])⟩,.inl ⟨_,u,ao.cm (k:=0) (bp eo oh) (by decide) (λb f=>absurd f (q0n b))⟩,.inl ⟨_,v,ao.Iq (by decide) rfl⟩,w.elim (λ⟨l,h,g⟩=> .inl ⟨_,h,ao.bA (ck _) (by rw[g,di]) (λq=>q)⟩) (λh=> .inr ⟨by rw[h.1];rfl,h.2⟩),z.elim (λ⟨l,h,g⟩=> .inl ⟨_,h,ao.bA (ck _) (by rw[g,di]) (λq=>q)⟩) (λh=> .inr ⟨by rw[h.1];rfl,h.2⟩),trivial⟩ rfl (λx i y j=>by simp only[Z4,Z5,or_false]at i j;rcases i with rfl|rfl|rfl|rfl|rfl<;>rcases j with rfl|rfl|rfl|rfl|rfl<;>simp<;>omega)
def Oj (c:GrC) (N:List Tx) (S:List Tx) (L:List Rl) (i:Nat):AE×AH:=(mkE [(0,.ptr 0 (0)),(5,.fr N.length 1 (strs N)),(9,AV.rw 8 0 L.length 5 0),(41,.fr S.length 1 (strs S)),(42,.si .i64 ((S.length:Int))),(43,.si .i64 ((i:Int)))],mkH [(0,.cells [.map 1] true),(1,c.O kT gR),(8,.cells (ruL (L)) true)])
theorem zJ{c:GrC}{N:List Tx}{S:List Tx}{L:List Rl}{i:Nat}{p n:Nat}{σ:AE}{H:AH}(a:Nat)(z:a≠0/\a≠1)(A:p<=2)(r:aj (pa 0) σ= .ptr 0 (0))(s:aj (pa 5) σ= .fr N.length 1 (strs N))(t:ah H 9 (λb=>if b=8 then a else b) (aj (pa 9) σ) (AV.rw 8 0 L.length 5 0))(d:aj (pa 41) σ= .fr S.length 1 (strs S))(e:mk (aj (pa 42) σ)= .si .i64 ((S.length:Int)))(f:mk (aj (pa 43) σ)= .si .i64 ((i:Int)))(u:H.get 0=some (.cells [.map 1] true))(v:H.get 1=some (c.O kT gR))(w:(∃l,H.get a=some (.cells l true)/\l.map mk=ruL (L))∨((L)=[]/\n<=a)):Cov p σ H n ((Oj c N S L i).1,(Oj c N S L i).2,9):=
 Cov.ofB (λb=>if b=8 then a else b) (by omega) (λb j=>by repeat' rw[if_neg (by omega)]) ⟨.ptr (by decide) r,ah.frE s,t,ah.frE d,.int e,.int f,trivial⟩ ⟨.inl ⟨_,u,ao.cm (k:=2) rfl (by decide) (λb j=>by rw[if_neg (by omega)])⟩,.inl ⟨_,v,ao.cm (k:=0) (bp eo oh) (by decide) (λb j=>absurd j (q0n b))⟩,w.elim (λ⟨l,h,g⟩=> .inl ⟨_,h,ao.bA (ja _) (by rw[g,dH]) (λq=>q)⟩) (λh=> .inr ⟨by rw[h.1];rfl,h.2⟩),trivial⟩ rfl (λx m y o=>by simp only[Z4,Z5,or_false]at m o;rcases m with rfl|rfl|rfl<;>rcases o with rfl|rfl|rfl<;>simp<;>omega)
def Ol (c:GrC) (N:List Tx) (S:List Tx) (L:List Rl) (s:Tx) (i:Nat) (j:Nat):AE×AH:=(mkE [(0,.ptr 0 (0)),(5,.fr N.length 1 (strs N)),(9,AV.rw 8 0 L.length 5 0),(11,.ss (s)),(41,.fr S.length 1 (strs S)),(42,.si .i64 ((S.length:Int))),(43,.si .i64 ((i:Int))),(47,.fr N.length 1 (strs N)),(48,.si .i64 ((N.length:Int))),(49,.si .i64 ((j:Int)))],mkH [(0,.cells [.map 1] true),(1,c.O kT gR),(8,.cells (ruL (L)) true)])
theorem tY{c:GrC}{N:List Tx}{S:List Tx}{L:List Rl}{s:Tx}{i:Nat}{j:Nat}{p n:Nat}{σ:AE}{H:AH}(a:Nat)(F:a≠0/\a≠1)(G:p<=2)(z:aj (pa 0) σ= .ptr 0 (0))(A:aj (pa 5) σ= .fr N.length 1 (strs N))(B:ah H 9 (λb=>if b=8 then a else b) (aj (pa 9) σ) (AV.rw 8 0 L.length 5 0))(d:mk (aj (pa 11) σ)= .ss (s))(e:aj (pa 41) σ= .fr S.length 1 (strs S))(f:mk (aj (pa 42) σ)= .si .i64 ((S.length:Int)))(m:mk (aj (pa 43) σ)= .si .i64 ((i:Int)))(o:aj (pa 47) σ= .fr N.length 1 (strs N))(r:mk (aj (pa 48) σ)= .si .i64 ((N.length:Int)))(t:mk (aj (pa 49) σ)= .si .i64 ((j:Int)))(C:H.get 0=some (.cells [.map 1] true))(D:H.get 1=some (c.O kT gR))(E:(∃l,H.get a=some (.cells l true)/\l.map mk=ruL (L))∨((L)=[]/\n<=a)):Cov p σ H n ((Ol c N S L s i j).1,(Ol c N S L s i j).2,9):=
 Cov.ofB (λb=>if b=8 then a else b) (by omega) (λb u=>by repeat' rw[if_neg (by omega)]) ⟨.ptr (by decide) z,ah.frE A,B,.str d,ah.frE e,.int f,.int m,ah.frE o,.int r,.int t,trivial⟩ ⟨.inl ⟨_,C,ao.cm (k:=2) rfl (by decide) (λb u=>by rw[if_neg (by omega)])⟩,.inl ⟨_,D,ao.cm (k:=0) (bp eo oh) (by decide) (λb u=>absurd u (q0n b))⟩,E.elim (λ⟨l,h,g⟩=> .inl ⟨_,h,ao.bA (ja _) (by rw[g,dH]) (λq=>q)⟩) (λh=> .inr ⟨by rw[h.1];rfl,h.2⟩),trivial⟩ rfl (λx v y w=>by simp only[Z4,Z5,or_false]at v w;rcases v with rfl|rfl|rfl<;>rcases w with rfl|rfl|rfl<;>simp<;>omega)
theorem Kz(x:Gr)(c:GrC)(u:Ky x c)(X:c.A.length<=1000):ax KPk 5 53 [.ptr 0 0] (mkH (bM (grO c) 0)) 2 (gm GrB x (.fr (pkF c.A (λ_=>true)).length 5 (ruL (pkF c.A (λ_=>true))))):=by
 obtain⟨a,F⟩:∃a:Rl->Bool,a=λ_=>true:=⟨_,rfl⟩
 rw[<-F]
 conv=>whnf
 refine aR.mk {I:List Nat//RgI c I} 10 (λI=>Oi c I.val ((soV c.A a I.val).map Prod.fst) ((soV c.A a I.val).map λe=>e.2.src)) (λI=>c.A.length-I.val.length) ⟨[],.nil⟩ ?_ ?_
 focus
  exact jx (c:=c) (I:=[]) (V:=((soV c.A a []).map Prod.fst)) (W:=((soV c.A a []).map λe=>e.2.src)) 8 9 (by decide) (Z3 2) rfl (ah.dj (k:=3) rfl rfl (by decide) (λb v=>by rw[if_neg (by omega),if_neg (by omega)])) (.iU rfl) (.iU rfl) rfl rfl rfl rfl (.inr ⟨rfl,by decide⟩) (.inr ⟨rfl,by decide⟩)
 intro⟨I,O⟩;have hIl:=O.len;have hle:(soV c.A a I).length<=I.length:=Y7 (nR _) (Nat.le_of_eq (vo O));have p:(((soV c.A a I).map Prod.fst).length+1)*16<=140737488355328:=by rw[Y9];omega
 have t:(((soV c.A a I).map λe=>e.2.src).length+1)*16<=140737488355328:=by rw[Y9];omega
 have w:bl (strs ((soV c.A a I).map Prod.fst)) 0 (((soV c.A a I).map Prod.fst).length*1)=some (strs ((soV c.A a I).map Prod.fst)):=bC (by rw[br,q0p]);have y:bl (strs ((soV c.A a I).map λe=>e.2.src)) 0 (((soV c.A a I).map λe=>e.2.src).length*1)=some (strs ((soV c.A a I).map λe=>e.2.src)):=bC (by rw[br,q0p])
 conv=>whnf
 refine Nxt.mp 2 1 c.cl _ _ _ rfl rfl rfl rfl u.o.lt (λho=>?_) (λi e x B Y hn=>?_)
 rotate_left
 focus
  obtain⟨G,rfl⟩:=vm B;obtain⟨n,Z⟩:=O.step G Y hn;have C:fH c.bs I++ [x]=fH c.bs (I++ [i]):=(qa Y).symm;have D:c.A.length-(I++ [i]).length<c.A.length-I.length:=by have:=n.len;simp only[Z6,q2l]at this⊢;omega
  have hnd:=u.o.nd;have P:=xZ (so:=a) (I:=I) G
  have yes:a c.A[i].2=true->((strs ((soV c.A a I).map Prod.fst)++ [AV.ss c.A[i].1]).map mk=strs ((soV c.A a (I++ [i])).map Prod.fst)/\((soV c.A a I).map Prod.fst).length+1=((soV c.A a (I++ [i])).map Prod.fst).length)/\(strs ((soV c.A a I).map λe=>e.2.src)++ [AV.ss c.A[i].2.src]).map mk=strs ((soV c.A a (I++ [i])).map λe=>e.2.src)/\((soV c.A a I).map λe=>e.2.src).length+1=((soV c.A a (I++ [i])).map λe=>e.2.src).length:=λq=>by
   have eV:(soV c.A a (I++ [i])).map Prod.fst=(soV c.A a I).map Prod.fst++ [c.A[i].1]:=by rw[P,if_pos q,q0r];rfl
   have eW:(soV c.A a (I++ [i])).map (λe=>e.2.src)=(soV c.A a I).map (λe=>e.2.src)++ [c.A[i].2.src]:=by rw[P,if_pos q,q0r];rfl
   rw[eV,eW];exact⟨⟨ez _ _,by rw[Z6];rfl⟩,ez _ _,by rw[Z6];rfl⟩
  have no:a c.A[i].2=false->soV c.A a (I++ [i])=soV c.A a I:=λq=>by
   rw[P,q];simp
  clear P
  conv=>whnf
  refine Ent.mp 2 1 c.cl i x (fH c.bs I) (jv kT gR c.A) c.bs _ rfl rfl rfl hnd Y B ?_
  conv=>whnf
  have q:=yes (by rw[F])
  conv=>whnf
  refine⟨?_,?_,?_,?_,?_,?_,trivial⟩
  focus
   conv=>whnf
   refine bI.grow 1 16 _ _ _ _ _ _ tyT (.old rfl) rfl rfl (.rw rfl w) p ?_
   conv=>whnf
   refine bI.grow 1 16 _ _ _ _ _ _ tyT (.old rfl) rfl rfl (.rw rfl y) t ?_
   conv=>whnf
   refine⟨⟨I++ [i],n⟩,D,?_⟩;refine jx (c:=c) (I:=I++ [i]) (V:=((soV c.A a (I++ [i])).map Prod.fst)) (W:=((soV c.A a (I++ [i])).map λe=>e.2.src)) 13 15 ?_ ?_ ?_ ?_ ?_ ?_ ?_ ?_ ?_ ?_ ?_ ?_
   ·exact by decide
   ·exact Z3 2
   ·exact rfl
   ·exact ah.dj (k:=3) rfl rfl (by decide) (λb v=>by rw[if_neg (by omega),if_neg (by omega)])
   ·exact .rw (by decide) rfl q.1.2
   ·exact .rw (by decide) rfl q.2.2
   ·exact rfl
   ·exact rfl
   ·exact rfl
   ·exact congrArg (λs=>some (AO.iter 1 c.cl s)) C
   ·exact .inl ⟨_,rfl,q.1.1⟩
   ·exact .inl ⟨_,rfl,q.2.1⟩
  focus
   conv=>whnf
   refine bI.grow 1 16 _ _ _ _ _ _ tyT (.old rfl) rfl rfl (.rw rfl w) p ?_
   conv=>whnf
   refine bI.grow 1 16 _ _ _ _ _ _ tyT (.old rfl) rfl rfl (.rw rfl y) t ?_
   conv=>whnf
   refine⟨⟨I++ [i],n⟩,D,?_⟩;refine jx (c:=c) (I:=I++ [i]) (V:=((soV c.A a (I++ [i])).map Prod.fst)) (W:=((soV c.A a (I++ [i])).map λe=>e.2.src)) 13 15 ?_ ?_ ?_ ?_ ?_ ?_ ?_ ?_ ?_ ?_ ?_ ?_
   ·exact by decide
   ·exact Z3 2
   ·exact rfl
   ·exact ah.dj (k:=3) rfl rfl (by decide) (λb v=>by rw[if_neg (by omega),if_neg (by omega)])
   ·exact .rw (by decide) rfl q.1.2
   ·exact .rw (by decide) rfl q.2.2
   ·exact rfl
   ·exact rfl
   ·exact rfl
   ·exact congrArg (λs=>some (AO.iter 1 c.cl s)) C
   ·exact .inl ⟨_,rfl,q.1.1⟩
   ·exact .inl ⟨_,rfl,q.2.1⟩
  focus
   conv=>whnf
   refine bI.grow 1 16 _ _ _ _ _ _ tyT (.old rfl) rfl rfl (.rw rfl w) p ?_
   conv=>whnf
   refine bI.grow 1 16 _ _ _ _ _ _ tyT (.old rfl) rfl rfl (.rw rfl y) t ?_
   conv=>whnf
   refine⟨⟨I++ [i],n⟩,D,?_⟩;refine jx (c:=c) (I:=I++ [i]) (V:=((soV c.A a (I++ [i])).map Prod.fst)) (W:=((soV c.A a (I++ [i])).map λe=>e.2.src)) 14 15 ?_ ?_ ?_ ?_ ?_ ?_ ?_ ?_ ?_ ?_ ?_ ?_
   ·exact by decide
   ·exact Z3 2
   ·exact rfl
   ·exact ah.dj (k:=3) rfl rfl (by decide) (λb v=>by rw[if_neg (by omega),if_neg (by omega)])
   ·exact .rw (by decide) rfl q.1.2
   ·exact .rw (by decide) rfl q.2.2
   ·exact rfl
   ·exact rfl
   ·exact rfl
   ·exact congrArg (λs=>some (AO.iter 1 c.cl s)) C
   ·exact .inl ⟨_,rfl,q.1.1⟩
   ·exact .inl ⟨_,rfl,q.2.1⟩
  focus
   conv=>whnf
   refine bI.grow 1 16 _ _ _ _ _ _ tyT (.old rfl) rfl rfl (.rw rfl w) p ?_
   conv=>whnf
   refine bI.grow 1 16 _ _ _ _ _ _ tyT (.old rfl) rfl rfl (.rw rfl y) t ?_
   conv=>whnf
   refine⟨⟨I++ [i],n⟩,D,?_⟩;refine jx (c:=c) (I:=I++ [i]) (V:=((soV c.A a (I++ [i])).map Prod.fst)) (W:=((soV c.A a (I++ [i])).map λe=>e.2.src)) 13 15 ?_ ?_ ?_ ?_ ?_ ?_ ?_ ?_ ?_ ?_ ?_ ?_
   ·exact by decide
   ·exact Z3 2
   ·exact rfl
   ·exact ah.dj (k:=3) rfl rfl (by decide) (λb v=>by rw[if_neg (by omega),if_neg (by omega)])
   ·exact .rw (by decide) rfl q.1.2
   ·exact .rw (by decide) rfl q.2.2
   ·exact rfl
   ·exact rfl
   ·exact rfl
   ·exact congrArg (λs=>some (AO.iter 1 c.cl s)) C
   ·exact .inl ⟨_,rfl,q.1.1⟩
   ·exact .inl ⟨_,rfl,q.2.1⟩
  focus
   conv=>whnf
   refine bI.grow 1 16 _ _ _ _ _ _ tyT (.old rfl) rfl rfl (.rw rfl w) p ?_
   conv=>whnf
   refine bI.grow 1 16 _ _ _ _ _ _ tyT (.old rfl) rfl rfl (.rw rfl y) t ?_
   conv=>whnf
   refine⟨⟨I++ [i],n⟩,D,?_⟩;refine jx (c:=c) (I:=I++ [i]) (V:=((soV c.A a (I++ [i])).map Prod.fst)) (W:=((soV c.A a (I++ [i])).map λe=>e.2.src)) 14 15 ?_ ?_ ?_ ?_ ?_ ?_ ?_ ?_ ?_ ?_ ?_ ?_
   ·exact by decide
   ·exact Z3 2
   ·exact rfl
   ·exact ah.dj (k:=3) rfl rfl (by decide) (λb v=>by rw[if_neg (by omega),if_neg (by omega)])
   ·exact .rw (by decide) rfl q.1.2
   ·exact .rw (by decide) rfl q.2.2
   ·exact rfl
   ·exact rfl
   ·exact rfl
   ·exact congrArg (λs=>some (AO.iter 1 c.cl s)) C
   ·exact .inl ⟨_,rfl,q.1.1⟩
   ·exact .inl ⟨_,rfl,q.2.1⟩
  focus
   conv=>whnf
   refine bI.grow 1 16 _ _ _ _ _ _ tyT (.old rfl) rfl rfl (.rw rfl w) p ?_
   conv=>whnf
   refine bI.grow 1 16 _ _ _ _ _ _ tyT (.old rfl) rfl rfl (.rw rfl y) t ?_
   conv=>whnf
   refine⟨⟨I++ [i],n⟩,D,?_⟩;refine jx (c:=c) (I:=I++ [i]) (V:=((soV c.A a (I++ [i])).map Prod.fst)) (W:=((soV c.A a (I++ [i])).map λe=>e.2.src)) 14 15 ?_ ?_ ?_ ?_ ?_ ?_ ?_ ?_ ?_ ?_ ?_ ?_
   ·exact by decide
   ·exact Z3 2
   ·exact rfl
   ·exact ah.dj (k:=3) rfl rfl (by decide) (λb v=>by rw[if_neg (by omega),if_neg (by omega)])
   ·exact .rw (by decide) rfl q.1.2
   ·exact .rw (by decide) rfl q.2.2
   ·exact rfl
   ·exact rfl
   ·exact rfl
   ·exact congrArg (λs=>some (AO.iter 1 c.cl s)) C
   ·exact .inl ⟨_,rfl,q.1.1⟩
   ·exact .inl ⟨_,rfl,q.2.1⟩
 have hd:∀e∈c.A,e.2.dst=e.1:=λe B=>u.dst e (by rw[<-u.A];exact B)
 obtain⟨p1,p2⟩:=O.uV u.o.nd u.o.len ho;have pp:(soV c.A a I).Perm (c.A.filter λe=>a e.2):=p1.filter _;have eN:=iv (pp.map Prod.fst);have eS:=iv (pp.map λe=>e.2.src);have lV:((soV c.A a I).map Prod.fst).length<=1000000:=by rw[Y9];omega
 have lW:((soV c.A a I).map λe=>e.2.src).length<=1000000:=by rw[Y9];omega
 obtain⟨N,Q⟩:∃N,N=aI ((soV c.A a I).map Prod.fst):=⟨_,rfl⟩;obtain⟨S,hS⟩:∃S,S=aI ((soV c.A a I).map λe=>e.2.src):=⟨_,rfl⟩;have lN:N.length<=1000:=by rw[Q];have:=dt ((soV c.A a I).map Prod.fst);rw[Y9]at this;omega
 have lS:S.length<=1000:=by rw[hS];have:=dt ((soV c.A a I).map λe=>e.2.src);rw[Y9]at this;omega
 have gN:∀d∈N,∃r,aM c.A d=some r:=λd hd=>by
  rw[Q,(bj _).2,q0t]at hd;obtain⟨e,B,rfl⟩:=hd;exact⟨e.2,fb u.o.key (BG (q1c.1 B).1)⟩
 have fin:S.flatMap (pkS N c.A)=pkF c.A a:=by rw[Q,hS,eN,eS];rfl
 have vN:AV.fr N.length 1 (strs N)= .fr (aI ((soV c.A a I).map Prod.fst)).length 1 (strs (aI ((soV c.A a I).map Prod.fst))):=by rw[Q]
 have vS:AV.fr S.length 1 (strs S)= .fr (aI ((soV c.A a I).map λe=>e.2.src)).length 1 (strs (aI ((soV c.A a I).map λe=>e.2.src))):=by rw[hS]
 clear eN eS pp
 conv=>whnf
 refine⟨_,.fr N.length 1 (strs N),_,.cons (.row (l:=strs ((soV c.A a I).map Prod.fst)) (z:=true) rfl (ck _) (by rw[br,q0p]) rfl) .nil,⟨_,rfl,lV,vN⟩,?_⟩
 conv=>whnf
 refine⟨_,.fr S.length 1 (strs S),_,.cons (.row (l:=strs ((soV c.A a I).map λe=>e.2.src)) (z:=true) rfl (ck _) (by rw[br,q0p]) rfl) .nil,⟨_,rfl,lW,vS⟩,?_⟩;have lP:∀(M:List Tx) (s:Tx),(pkS M c.A s).length<=M.length:=λM s=>by unfold pkS;rw[Y9];exact nR _
 have lL:∀i,((S.take i).flatMap (pkS N c.A)).length<=1000000:=λi=>by
  have h1:=vr (L:=S.take i) (f:=pkS N c.A) (b:=1000) λs _=>Y7 (lP N s) lN
  have h2:(S.take i).length<=1000:=Y7 (by rw[q0d];exact Nat.min_le_right _ _) lS;omega
 conv=>whnf
 refine aR.mk {i:Nat//i<=S.length} 9 (λi=>Oj c N S ((S.take i.val).flatMap (pkS N c.A)) i.val) (λi=>S.length-i.val) ⟨0,Y5 _⟩ ?_ ?_
 focus
  exact zJ (c:=c) (N:=N) (S:=S) (L:=(S.take 0).flatMap (pkS N c.A)) (i:=0) 10 (by decide) (Z3 2) rfl rfl (.iU rfl) rfl rfl rfl rfl rfl (.inr ⟨rfl,by decide⟩)
 intro⟨i,Z⟩;have Z:i<=S.length:=Z;have hw:IntKind.i64.wrap ((i:Int)+1)=((i+1:Nat):Int):=by rw[ai (by omega) (by omega)];omega
 have lLi:=lL i
 conv=>whnf
 refine ae.dec (λh=>?_) (λh=>?_)
 focus
  have T:i<S.length:=q0s.1 h;have e3:(S.take (i+1)).flatMap (pkS N c.A)=(S.take i).flatMap (pkS N c.A)++pkS N c.A S[i]:=by rw[Y8 T,List.flatMap_append];simp
  conv=>whnf
  refine Idx.mk i rfl T ?_
  conv=>whnf
  refine aw (gv T (q0p _)) ?_
  conv=>whnf
  refine aR.mk {j:Nat//j<=N.length} 9 (λj=>Ol c N S ((S.take i).flatMap (pkS N c.A)++pkS (N.take j.val) c.A S[i]) S[i] i j.val) (λj=>N.length-j.val) ⟨0,Y5 _⟩ ?_ ?_
  focus
   exact tY (c:=c) (N:=N) (S:=S) (L:=(S.take i).flatMap (pkS N c.A)++pkS (N.take 0) c.A S[i]) (s:=S[i]) (i:=i) (j:=0) 8 (by decide) (Z3 2) rfl rfl (.rw (by decide) rfl (by rw[Z6];rfl)) rfl rfl rfl rfl rfl rfl rfl rfl rfl (.inl ⟨_,rfl,by rw[dH];exact congrArg ruL (q1d _).symm⟩)
  intro⟨j,hj⟩;have hj:j<=N.length:=hj;have H:IntKind.i64.wrap ((j:Int)+1)=((j+1:Nat):Int):=by rw[ai (by omega) (by omega)];omega
  obtain⟨L,J⟩:∃L,L=(S.take i).flatMap (pkS N c.A)++pkS (N.take j) c.A S[i]:=⟨_,rfl⟩
  have bL:L.length<=1001000:=by
   have h1:=lP (N.take j) S[i];rw[q0d]at h1;rw[J,Z6];omega
  rw[<-J]
  conv=>whnf
  refine ae.dec (λh=>?_) (λh=>?_)
  focus
   have E:j<N.length:=q0s.1 h;obtain⟨r,hr⟩:=gN N[j] (q0g E);have er:rul c.A N[j]=r:=by unfold rul;rw[hr];rfl
   have U:=xY (R:=c.A) (s:=S[i]) E;rw[er]at U;have K:N.length-(j+1)<N.length-j:=by omega
   have y1:dR r.src S[i]=true->L++ [r]=(S.take i).flatMap (pkS N c.A)++pkS (N.take (j+1)) c.A S[i]:=λq=>by rw[U,if_pos (bE.1 q),J,q0o]
   have y0:dR r.src S[i]=false->L=(S.take i).flatMap (pkS N c.A)++pkS (N.take (j+1)) c.A S[i]:=λq=>by
    have:r.src≠S[i]:=λe=>by rw[bE.2 e]at q;cases q
    rw[U,if_neg this,q1d,J]
   have hsL:bl (ruL L) 0 (L.length*5)=some (ruL L):=bC (jw L);have hbL:(L.length+1)*56<=140737488355328:=by omega
   clear U
   conv=>whnf
   refine Idx.mk j rfl E ?_
   conv=>whnf
   refine aw (gv E (q0p _)) ?_
   conv=>whnf
   refine Ask.mk _ (aZ (m:=c) (g:=gR) (k:=N[j]) bS mkR rfl rfl rfl lC hr) ?_
   conv=>whnf
   refine ae.sb (λz=>?_) (λz=>?_)
   focus
    have q:=y1 z
    conv=>whnf
    refine Ask.mk _ (aZ (m:=c) (g:=gR) (k:=N[j]) bS mkR rfl rfl rfl lC hr) ?_
    conv=>whnf
    refine bI.grow 5 56 _ _ _ _ _ _ UN (.old rfl) rfl rfl (.rw rfl hsL) hbL ?_
    conv=>whnf
    exact⟨⟨j+1,E⟩,K,tY (c:=c) (N:=N) (S:=S) (L:=(S.take i).flatMap (pkS N c.A)++pkS (N.take (j+1)) c.A S[i]) (s:=S[i]) (i:=i) (j:=j+1) 10 (by decide) (Z3 2) rfl rfl (.rw (by decide) rfl (by rw[<-q,Z6];rfl)) rfl rfl rfl rfl rfl rfl (congrArg (AV.si .i64) H) rfl rfl (.inl ⟨_,rfl,by rw[<-q];exact xW L r⟩)⟩
   have q:=y0 z
   conv=>whnf
   exact⟨⟨j+1,E⟩,K,tY (c:=c) (N:=N) (S:=S) (L:=(S.take i).flatMap (pkS N c.A)++pkS (N.take (j+1)) c.A S[i]) (s:=S[i]) (i:=i) (j:=j+1) 8 (by decide) (Z3 2) rfl rfl (.rw (by decide) rfl (by rw[<-q])) rfl rfl rfl rfl rfl rfl (congrArg (AV.si .i64) H) rfl rfl (.inl ⟨_,rfl,by rw[<-q];exact dH L⟩)⟩
  have ej:j=N.length:=by have h:¬(j:Int)<(N.length:Int):=h;omega
  have eL:L=(S.take (i+1)).flatMap (pkS N c.A):=by rw[J,ej,q0l,e3]
  conv=>whnf
  exact⟨⟨i+1,T⟩,by show S.length-(i+1)<S.length-i;omega,zJ (c:=c) (N:=N) (S:=S) (L:=(S.take (i+1)).flatMap (pkS N c.A)) (i:=i+1) 8 (by decide) (Z3 2) rfl rfl (.rw (by decide) rfl (by rw[eL])) rfl rfl (congrArg (AV.si .i64) hw) rfl rfl (.inl ⟨_,rfl,by rw[eL];exact dH _⟩)⟩
 have ei:i=S.length:=by have h:¬(i:Int)<(S.length:Int):=h;omega
 have eF:(S.take i).flatMap (pkS N c.A)=pkF c.A a:=by rw[ei,q0l,fin]
 conv=>whnf
 exact⟨_,c,Re.UL rfl (congrArg List.length eF) rfl (ja _) (jw _) (by rw[eF]),u,mW rfl rfl⟩
def UR (k:Tx) (c:GrC) (I:List Nat) (V:List Tx) (W:List Tx):AE×AH:=(mkE [(0,.ptr 0 (0)),(1,AV.fn 189 [] [.ptr 2 0]),(5,.rw 8 0 V.length 1 0),(6,.rw 9 0 W.length 1 0),(20,.ptr 3 (0))],mkH [(0,.cells [.map 1] true),(1,c.O kT gR),(2,.cells [.ss k] true),(3,AO.iter 1 c.cl (fH c.bs I)),(8,.cells (strs (V)) true),(9,.cells (strs (W)) true)])
theorem jY{k:Tx}{c:GrC}{I:List Nat}{V:List Tx}{W:List Tx}{p n:Nat}{σ:AE}{H:AH}(a:Nat)(d:Nat)(B:a≠0/\a≠1/\a≠2/\a≠3/\a≠d/\d≠0/\d≠1/\d≠2/\d≠3)(C:p<=3)(m:aj (pa 0) σ= .ptr 0 (0))(o:ah H 10 (λb=>if b=8 then a else if b=9 then d else b) (aj (pa 1) σ) (AV.fn 189 [] [.ptr 2 0]))(r:ah H 10 (λb=>if b=8 then a else if b=9 then d else b) (aj (pa 5) σ) (.rw 8 0 V.length 1 0))(s:ah H 10 (λb=>if b=8 then a else if b=9 then d else b) (aj (pa 6) σ) (.rw 9 0 W.length 1 0))(f:aj (pa 20) σ= .ptr 3 (0))(t:H.get 0=some (.cells [.map 1] true))(u:H.get 1=some (c.O kT gR))(v:H.get 2=some (.cells [.ss k] true))(w:H.get 3=some (AO.iter 1 c.cl (fH c.bs I)))(z:(∃l,H.get a=some (.cells l true)/\l.map mk=strs (V))∨((V)=[]/\n<=a))(A:(∃l,H.get d=some (.cells l true)/\l.map mk=strs (W))∨((W)=[]/\n<=d)):Cov p σ H n ((UR k c I V W).1,(UR k c I V W).2,10):=
 Cov.ofB (λb=>if b=8 then a else if b=9 then d else b) (by omega) (λb e=>by repeat' rw[if_neg (by omega)]) ⟨.ptr (by decide) m,o,r,s,.ptr (by decide) f,trivial⟩ ⟨.inl ⟨_,t,ao.cm (k:=2) rfl (by decide) (λb e=>by rw[if_neg (by omega),if_neg (by omega)])⟩,.inl ⟨_,u,ao.cm (k:=0) (bp eo oh) (by decide) (λb e=>absurd e (q0n b))⟩,.inl ⟨_,v,ao.cm (k:=0) rfl (by decide) (λb e=>absurd e (q0n b))⟩,.inl ⟨_,w,ao.Iq (by decide) rfl⟩,z.elim (λ⟨l,h,g⟩=> .inl ⟨_,h,ao.bA (ck _) (by rw[g,di]) (λq=>q)⟩) (λh=> .inr ⟨by rw[h.1];rfl,h.2⟩),A.elim (λ⟨l,h,g⟩=> .inl ⟨_,h,ao.bA (ck _) (by rw[g,di]) (λq=>q)⟩) (λh=> .inr ⟨by rw[h.1];rfl,h.2⟩),trivial⟩ rfl (λx i y j=>by simp only[Z4,Z5,or_false]at i j;rcases i with rfl|rfl|rfl|rfl|rfl|rfl<;>rcases j with rfl|rfl|rfl|rfl|rfl|rfl<;>simp<;>omega)
def US (k:Tx) (c:GrC) (N:List Tx) (S:List Tx) (L:List Rl) (i:Nat):AE×AH:=(mkE [(0,.ptr 0 (0)),(5,.fr N.length 1 (strs N)),(9,AV.rw 8 0 L.length 5 0),(41,.fr S.length 1 (strs S)),(42,.si .i64 ((S.length:Int))),(43,.si .i64 ((i:Int)))],mkH [(0,.cells [.map 1] true),(1,c.O kT gR),(2,.cells [.ss k] true),(8,.cells (ruL (L)) true)])
theorem Ee{k:Tx}{c:GrC}{N:List Tx}{S:List Tx}{L:List Rl}{i:Nat}{p n:Nat}{σ:AE}{H:AH}(a:Nat)(A:a≠0/\a≠1/\a≠2)(B:p<=3)(r:aj (pa 0) σ= .ptr 0 (0))(s:aj (pa 5) σ= .fr N.length 1 (strs N))(t:ah H 9 (λb=>if b=8 then a else b) (aj (pa 9) σ) (AV.rw 8 0 L.length 5 0))(e:aj (pa 41) σ= .fr S.length 1 (strs S))(f:mk (aj (pa 42) σ)= .si .i64 ((S.length:Int)))(j:mk (aj (pa 43) σ)= .si .i64 ((i:Int)))(u:H.get 0=some (.cells [.map 1] true))(v:H.get 1=some (c.O kT gR))(w:H.get 2=some (.cells [.ss k] true))(z:(∃l,H.get a=some (.cells l true)/\l.map mk=ruL (L))∨((L)=[]/\n<=a)):Cov p σ H n ((US k c N S L i).1,(US k c N S L i).2,9):=
 Cov.ofB (λb=>if b=8 then a else b) (by omega) (λb d=>by repeat' rw[if_neg (by omega)]) ⟨.ptr (by decide) r,ah.frE s,t,ah.frE e,.int f,.int j,trivial⟩ ⟨.inl ⟨_,u,ao.cm (k:=2) rfl (by decide) (λb d=>by rw[if_neg (by omega)])⟩,.inl ⟨_,v,ao.cm (k:=0) (bp eo oh) (by decide) (λb d=>absurd d (q0n b))⟩,.inl ⟨_,w,ao.cm (k:=0) rfl (by decide) (λb d=>absurd d (q0n b))⟩,z.elim (λ⟨l,h,g⟩=> .inl ⟨_,h,ao.bA (ja _) (by rw[g,dH]) (λq=>q)⟩) (λh=> .inr ⟨by rw[h.1];rfl,h.2⟩),trivial⟩ rfl (λx m y o=>by simp only[Z4,Z5,or_false]at m o;rcases m with rfl|rfl|rfl|rfl<;>rcases o with rfl|rfl|rfl|rfl<;>simp<;>omega)
def UT (k:Tx) (c:GrC) (N:List Tx) (S:List Tx) (L:List Rl) (s:Tx) (i:Nat) (j:Nat):AE×AH:=(mkE [(0,.ptr 0 (0)),(5,.fr N.length 1 (strs N)),(9,AV.rw 8 0 L.length 5 0),(11,.ss (s)),(41,.fr S.length 1 (strs S)),(42,.si .i64 ((S.length:Int))),(43,.si .i64 ((i:Int))),(47,.fr N.length 1 (strs N)),(48,.si .i64 ((N.length:Int))),(49,.si .i64 ((j:Int)))],mkH [(0,.cells [.map 1] true),(1,c.O kT gR),(2,.cells [.ss k] true),(8,.cells (ruL (L)) true)])
theorem x4{k:Tx}{c:GrC}{N:List Tx}{S:List Tx}{L:List Rl}{s:Tx}{i:Nat}{j:Nat}{p n:Nat}{σ:AE}{H:AH}(a:Nat)(G:a≠0/\a≠1/\a≠2)(I:p<=3)(z:aj (pa 0) σ= .ptr 0 (0))(A:aj (pa 5) σ= .fr N.length 1 (strs N))(B:ah H 9 (λb=>if b=8 then a else b) (aj (pa 9) σ) (AV.rw 8 0 L.length 5 0))(e:mk (aj (pa 11) σ)= .ss (s))(f:aj (pa 41) σ= .fr S.length 1 (strs S))(m:mk (aj (pa 42) σ)= .si .i64 ((S.length:Int)))(o:mk (aj (pa 43) σ)= .si .i64 ((i:Int)))(r:aj (pa 47) σ= .fr N.length 1 (strs N))(t:mk (aj (pa 48) σ)= .si .i64 ((N.length:Int)))(u:mk (aj (pa 49) σ)= .si .i64 ((j:Int)))(C:H.get 0=some (.cells [.map 1] true))(D:H.get 1=some (c.O kT gR))(E:H.get 2=some (.cells [.ss k] true))(F:(∃l,H.get a=some (.cells l true)/\l.map mk=ruL (L))∨((L)=[]/\n<=a)):Cov p σ H n ((UT k c N S L s i j).1,(UT k c N S L s i j).2,9):=
 Cov.ofB (λb=>if b=8 then a else b) (by omega) (λb d=>by repeat' rw[if_neg (by omega)]) ⟨.ptr (by decide) z,ah.frE A,B,.str e,ah.frE f,.int m,.int o,ah.frE r,.int t,.int u,trivial⟩ ⟨.inl ⟨_,C,ao.cm (k:=2) rfl (by decide) (λb d=>by rw[if_neg (by omega)])⟩,.inl ⟨_,D,ao.cm (k:=0) (bp eo oh) (by decide) (λb d=>absurd d (q0n b))⟩,.inl ⟨_,E,ao.cm (k:=0) rfl (by decide) (λb d=>absurd d (q0n b))⟩,F.elim (λ⟨l,h,g⟩=> .inl ⟨_,h,ao.bA (ja _) (by rw[g,dH]) (λq=>q)⟩) (λh=> .inr ⟨by rw[h.1];rfl,h.2⟩),trivial⟩ rfl (λx v y w=>by simp only[Z4,Z5,or_false]at v w;rcases v with rfl|rfl|rfl|rfl<;>rcases w with rfl|rfl|rfl|rfl<;>simp<;>omega)
theorem Ef(x:Gr)(k:Tx)(c:GrC)(u:Ky x c)(X:c.A.length<=1000):ax KPk 5 133 [.ptr 0 0,.ss k] (mkH (bM (grO c) 0)) 2 (gm GrB x (.fr (pkF c.A (λr=>decide (r.src=k))).length 5 (ruL (pkF c.A (λr=>decide (r.src=k)))))):=by
 obtain⟨a,v⟩:∃a:Rl->Bool,a=λr=>decide (r.src=k):=⟨_,rfl⟩
 rw[<-v]
 conv=>whnf
 refine aR.mk {I:List Nat//RgI c I} 10 (λI=>UR k c I.val ((soV c.A a I.val).map Prod.fst) ((soV c.A a I.val).map λe=>e.2.src)) (λI=>c.A.length-I.val.length) ⟨[],.nil⟩ ?_ ?_
 focus
  exact jY (c:=c) (I:=[]) (V:=((soV c.A a []).map Prod.fst)) (W:=((soV c.A a []).map λe=>e.2.src)) 8 9 (by decide) (Z3 3) rfl (ah.dj (k:=3) rfl rfl (by decide) (λb w=>by rw[if_neg (by omega),if_neg (by omega)])) (.iU rfl) (.iU rfl) rfl rfl rfl rfl rfl (.inr ⟨rfl,by decide⟩) (.inr ⟨rfl,by decide⟩)
 intro⟨I,O⟩;have hIl:=O.len;have hle:(soV c.A a I).length<=I.length:=Y7 (nR _) (Nat.le_of_eq (vo O));have p:(((soV c.A a I).map Prod.fst).length+1)*16<=140737488355328:=by rw[Y9];omega
 have t:(((soV c.A a I).map λe=>e.2.src).length+1)*16<=140737488355328:=by rw[Y9];omega
 have C:bl (strs ((soV c.A a I).map Prod.fst)) 0 (((soV c.A a I).map Prod.fst).length*1)=some (strs ((soV c.A a I).map Prod.fst)):=bC (by rw[br,q0p]);have D:bl (strs ((soV c.A a I).map λe=>e.2.src)) 0 (((soV c.A a I).map λe=>e.2.src).length*1)=some (strs ((soV c.A a I).map λe=>e.2.src)):=bC (by rw[br,q0p])
 conv=>whnf
 refine Nxt.mp 3 1 c.cl _ _ _ rfl rfl rfl rfl u.o.lt (λho=>?_) (λi e x E Y hn=>?_)
 rotate_left
 focus
  obtain⟨G,rfl⟩:=vm E;obtain⟨n,Z⟩:=O.step G Y hn;have y:fH c.bs I++ [x]=fH c.bs (I++ [i]):=(qa Y).symm;have B:c.A.length-(I++ [i]).length<c.A.length-I.length:=by have:=n.len;simp only[Z6,q2l]at this⊢;omega
  have hnd:=u.o.nd;have P:=xZ (so:=a) (I:=I) G
  have yes:a c.A[i].2=true->((strs ((soV c.A a I).map Prod.fst)++ [AV.ss c.A[i].1]).map mk=strs ((soV c.A a (I++ [i])).map Prod.fst)/\((soV c.A a I).map Prod.fst).length+1=((soV c.A a (I++ [i])).map Prod.fst).length)/\(strs ((soV c.A a I).map λe=>e.2.src)++ [AV.ss c.A[i].2.src]).map mk=strs ((soV c.A a (I++ [i])).map λe=>e.2.src)/\((soV c.A a I).map λe=>e.2.src).length+1=((soV c.A a (I++ [i])).map λe=>e.2.src).length:=λq=>by
   have eV:(soV c.A a (I++ [i])).map Prod.fst=(soV c.A a I).map Prod.fst++ [c.A[i].1]:=by rw[P,if_pos q,q0r];rfl
   have eW:(soV c.A a (I++ [i])).map (λe=>e.2.src)=(soV c.A a I).map (λe=>e.2.src)++ [c.A[i].2.src]:=by rw[P,if_pos q,q0r];rfl
   rw[eV,eW];exact⟨⟨ez _ _,by rw[Z6];rfl⟩,ez _ _,by rw[Z6];rfl⟩
  have no:a c.A[i].2=false->soV c.A a (I++ [i])=soV c.A a I:=λq=>by
   rw[P,q];simp
  clear P
  conv=>whnf
  refine Ent.mp 3 1 c.cl i x (fH c.bs I) (jv kT gR c.A) c.bs _ rfl rfl rfl hnd Y E ?_
  conv=>whnf
  refine ae.sb (λz=>?_) (λz=>?_)
  focus
   have q:=yes (by rw[v];exact decide_eq_true (bE.1 z))
   conv=>whnf
   refine⟨?_,?_,?_,?_,?_,?_,trivial⟩
   focus
    conv=>whnf
    refine bI.grow 1 16 _ _ _ _ _ _ tyT (.old rfl) rfl rfl (.rw rfl C) p ?_
    conv=>whnf
    refine bI.grow 1 16 _ _ _ _ _ _ tyT (.old rfl) rfl rfl (.rw rfl D) t ?_
    conv=>whnf
    refine⟨⟨I++ [i],n⟩,B,?_⟩;refine jY (c:=c) (I:=I++ [i]) (V:=((soV c.A a (I++ [i])).map Prod.fst)) (W:=((soV c.A a (I++ [i])).map λe=>e.2.src)) 13 15 ?_ ?_ ?_ ?_ ?_ ?_ ?_ ?_ ?_ ?_ ?_ ?_ ?_
    ·exact by decide
    ·exact Z3 3
    ·exact rfl
    ·exact ah.dj (k:=3) rfl rfl (by decide) (λb w=>by rw[if_neg (by omega),if_neg (by omega)])
    ·exact .rw (by decide) rfl q.1.2
    ·exact .rw (by decide) rfl q.2.2
    ·exact rfl
    ·exact rfl
    ·exact rfl
    ·exact rfl
    ·exact congrArg (λs=>some (AO.iter 1 c.cl s)) y
    ·exact .inl ⟨_,rfl,q.1.1⟩
    ·exact .inl ⟨_,rfl,q.2.1⟩
   focus
    conv=>whnf
    refine bI.grow 1 16 _ _ _ _ _ _ tyT (.old rfl) rfl rfl (.rw rfl C) p ?_
    conv=>whnf
    refine bI.grow 1 16 _ _ _ _ _ _ tyT (.old rfl) rfl rfl (.rw rfl D) t ?_
    conv=>whnf
    refine⟨⟨I++ [i],n⟩,B,?_⟩;refine jY (c:=c) (I:=I++ [i]) (V:=((soV c.A a (I++ [i])).map Prod.fst)) (W:=((soV c.A a (I++ [i])).map λe=>e.2.src)) 13 15 ?_ ?_ ?_ ?_ ?_ ?_ ?_ ?_ ?_ ?_ ?_ ?_ ?_
    ·exact by decide
    ·exact Z3 3
    ·exact rfl
    ·exact ah.dj (k:=3) rfl rfl (by decide) (λb w=>by rw[if_neg (by omega),if_neg (by omega)])
    ·exact .rw (by decide) rfl q.1.2
    ·exact .rw (by decide) rfl q.2.2
    ·exact rfl
    ·exact rfl
    ·exact rfl
    ·exact rfl
    ·exact congrArg (λs=>some (AO.iter 1 c.cl s)) y
    ·exact .inl ⟨_,rfl,q.1.1⟩
    ·exact .inl ⟨_,rfl,q.2.1⟩
   focus
    conv=>whnf
    refine bI.grow 1 16 _ _ _ _ _ _ tyT (.old rfl) rfl rfl (.rw rfl C) p ?_
    conv=>whnf
    refine bI.grow 1 16 _ _ _ _ _ _ tyT (.old rfl) rfl rfl (.rw rfl D) t ?_
    conv=>whnf
    refine⟨⟨I++ [i],n⟩,B,?_⟩;refine jY (c:=c) (I:=I++ [i]) (V:=((soV c.A a (I++ [i])).map Prod.fst)) (W:=((soV c.A a (I++ [i])).map λe=>e.2.src)) 14 15 ?_ ?_ ?_ ?_ ?_ ?_ ?_ ?_ ?_ ?_ ?_ ?_ ?_
    ·exact by decide
    ·exact Z3 3
    ·exact rfl
    ·exact ah.dj (k:=3) rfl rfl (by decide) (λb w=>by rw[if_neg (by omega),if_neg (by omega)])
    ·exact .rw (by decide) rfl q.1.2
    ·exact .rw (by decide) rfl q.2.2
    ·exact rfl
    ·exact rfl
    ·exact rfl
    ·exact rfl
    ·exact congrArg (λs=>some (AO.iter 1 c.cl s)) y
    ·exact .inl ⟨_,rfl,q.1.1⟩
    ·exact .inl ⟨_,rfl,q.2.1⟩
   focus
    conv=>whnf
    refine bI.grow 1 16 _ _ _ _ _ _ tyT (.old rfl) rfl rfl (.rw rfl C) p ?_
    conv=>whnf
    refine bI.grow 1 16 _ _ _ _ _ _ tyT (.old rfl) rfl rfl (.rw rfl D) t ?_
    conv=>whnf
    refine⟨⟨I++ [i],n⟩,B,?_⟩;refine jY (c:=c) (I:=I++ [i]) (V:=((soV c.A a (I++ [i])).map Prod.fst)) (W:=((soV c.A a (I++ [i])).map λe=>e.2.src)) 13 15 ?_ ?_ ?_ ?_ ?_ ?_ ?_ ?_ ?_ ?_ ?_ ?_ ?_
    ·exact by decide
    ·exact Z3 3
    ·exact rfl
    ·exact ah.dj (k:=3) rfl rfl (by decide) (λb w=>by rw[if_neg (by omega),if_neg (by omega)])
    ·exact .rw (by decide) rfl q.1.2
    ·exact .rw (by decide) rfl q.2.2
    ·exact rfl
    ·exact rfl
    ·exact rfl
    ·exact rfl
    ·exact congrArg (λs=>some (AO.iter 1 c.cl s)) y
    ·exact .inl ⟨_,rfl,q.1.1⟩
    ·exact .inl ⟨_,rfl,q.2.1⟩
   focus
    conv=>whnf
    refine bI.grow 1 16 _ _ _ _ _ _ tyT (.old rfl) rfl rfl (.rw rfl C) p ?_
    conv=>whnf
    refine bI.grow 1 16 _ _ _ _ _ _ tyT (.old rfl) rfl rfl (.rw rfl D) t ?_
    conv=>whnf
    refine⟨⟨I++ [i],n⟩,B,?_⟩;refine jY (c:=c) (I:=I++ [i]) (V:=((soV c.A a (I++ [i])).map Prod.fst)) (W:=((soV c.A a (I++ [i])).map λe=>e.2.src)) 14 15 ?_ ?_ ?_ ?_ ?_ ?_ ?_ ?_ ?_ ?_ ?_ ?_ ?_
    ·exact by decide
    ·exact Z3 3
    ·exact rfl
    ·exact ah.dj (k:=3) rfl rfl (by decide) (λb w=>by rw[if_neg (by omega),if_neg (by omega)])
    ·exact .rw (by decide) rfl q.1.2
    ·exact .rw (by decide) rfl q.2.2
    ·exact rfl
    ·exact rfl
    ·exact rfl
    ·exact rfl
    ·exact congrArg (λs=>some (AO.iter 1 c.cl s)) y
    ·exact .inl ⟨_,rfl,q.1.1⟩
    ·exact .inl ⟨_,rfl,q.2.1⟩
   focus
    conv=>whnf
    refine bI.grow 1 16 _ _ _ _ _ _ tyT (.old rfl) rfl rfl (.rw rfl C) p ?_
    conv=>whnf
    refine bI.grow 1 16 _ _ _ _ _ _ tyT (.old rfl) rfl rfl (.rw rfl D) t ?_
    conv=>whnf
    refine⟨⟨I++ [i],n⟩,B,?_⟩;refine jY (c:=c) (I:=I++ [i]) (V:=((soV c.A a (I++ [i])).map Prod.fst)) (W:=((soV c.A a (I++ [i])).map λe=>e.2.src)) 14 15 ?_ ?_ ?_ ?_ ?_ ?_ ?_ ?_ ?_ ?_ ?_ ?_ ?_
    ·exact by decide
    ·exact Z3 3
    ·exact rfl
    ·exact ah.dj (k:=3) rfl rfl (by decide) (λb w=>by rw[if_neg (by omega),if_neg (by omega)])
    ·exact .rw (by decide) rfl q.1.2
    ·exact .rw (by decide) rfl q.2.2
    ·exact rfl
    ·exact rfl
    ·exact rfl
    ·exact rfl
    ·exact congrArg (λs=>some (AO.iter 1 c.cl s)) y
    ·exact .inl ⟨_,rfl,q.1.1⟩
    ·exact .inl ⟨_,rfl,q.2.1⟩
  have q:=no (by rw[v];exact decide_eq_false λe=>by rw[bE.2 e]at z;cases z)
  conv=>whnf
  refine⟨⟨I++ [i],n⟩,B,?_⟩;refine jY (c:=c) (I:=I++ [i]) (V:=((soV c.A a (I++ [i])).map Prod.fst)) (W:=((soV c.A a (I++ [i])).map λe=>e.2.src)) 8 9 ?_ ?_ ?_ ?_ ?_ ?_ ?_ ?_ ?_ ?_ ?_ ?_ ?_
  ·exact by decide
  ·exact Z3 3
  ·exact rfl
  ·exact ah.dj (k:=3) rfl rfl (by decide) (λb w=>by rw[if_neg (by omega),if_neg (by omega)])
  ·exact .rw (by decide) rfl (by rw[q])
  ·exact .rw (by decide) rfl (by rw[q])
  ·exact rfl
  ·exact rfl
  ·exact rfl
  ·exact rfl
  ·exact congrArg (λs=>some (AO.iter 1 c.cl s)) y
  ·exact .inl ⟨_,rfl,by rw[q];exact di _⟩
  ·exact .inl ⟨_,rfl,by rw[q];exact di _⟩
 have hd:∀e∈c.A,e.2.dst=e.1:=λe E=>u.dst e (by rw[<-u.A];exact E)
 obtain⟨p1,p2⟩:=O.uV u.o.nd u.o.len ho;have pp:(soV c.A a I).Perm (c.A.filter λe=>a e.2):=p1.filter _;have eN:=iv (pp.map Prod.fst);have eS:=iv (pp.map λe=>e.2.src);have lV:((soV c.A a I).map Prod.fst).length<=1000000:=by rw[Y9];omega
 have lW:((soV c.A a I).map λe=>e.2.src).length<=1000000:=by rw[Y9];omega
 obtain⟨N,Q⟩:∃N,N=aI ((soV c.A a I).map Prod.fst):=⟨_,rfl⟩;obtain⟨S,hS⟩:∃S,S=aI ((soV c.A a I).map λe=>e.2.src):=⟨_,rfl⟩;have lN:N.length<=1000:=by rw[Q];have:=dt ((soV c.A a I).map Prod.fst);rw[Y9]at this;omega
 have lS:S.length<=1000:=by rw[hS];have:=dt ((soV c.A a I).map λe=>e.2.src);rw[Y9]at this;omega
 have gN:∀d∈N,∃r,aM c.A d=some r:=λd hd=>by
  rw[Q,(bj _).2,q0t]at hd;obtain⟨e,E,rfl⟩:=hd;exact⟨e.2,fb u.o.key (BG (q1c.1 E).1)⟩
 have fin:S.flatMap (pkS N c.A)=pkF c.A a:=by rw[Q,hS,eN,eS];rfl
 have vN:AV.fr N.length 1 (strs N)= .fr (aI ((soV c.A a I).map Prod.fst)).length 1 (strs (aI ((soV c.A a I).map Prod.fst))):=by rw[Q]
 have vS:AV.fr S.length 1 (strs S)= .fr (aI ((soV c.A a I).map λe=>e.2.src)).length 1 (strs (aI ((soV c.A a I).map λe=>e.2.src))):=by rw[hS]
 clear eN eS pp
 conv=>whnf
 refine⟨_,.fr N.length 1 (strs N),_,.cons (.row (l:=strs ((soV c.A a I).map Prod.fst)) (z:=true) rfl (ck _) (by rw[br,q0p]) rfl) .nil,⟨_,rfl,lV,vN⟩,?_⟩
 conv=>whnf
 refine⟨_,.fr S.length 1 (strs S),_,.cons (.row (l:=strs ((soV c.A a I).map λe=>e.2.src)) (z:=true) rfl (ck _) (by rw[br,q0p]) rfl) .nil,⟨_,rfl,lW,vS⟩,?_⟩;have lP:∀(M:List Tx) (s:Tx),(pkS M c.A s).length<=M.length:=λM s=>by unfold pkS;rw[Y9];exact nR _
 have lL:∀i,((S.take i).flatMap (pkS N c.A)).length<=1000000:=λi=>by
  have h1:=vr (L:=S.take i) (f:=pkS N c.A) (b:=1000) λs _=>Y7 (lP N s) lN
  have h2:(S.take i).length<=1000:=Y7 (by rw[q0d];exact Nat.min_le_right _ _) lS;omega
 conv=>whnf
 refine aR.mk {i:Nat//i<=S.length} 9 (λi=>US k c N S ((S.take i.val).flatMap (pkS N c.A)) i.val) (λi=>S.length-i.val) ⟨0,Y5 _⟩ ?_ ?_
 focus
  exact Ee (c:=c) (N:=N) (S:=S) (L:=(S.take 0).flatMap (pkS N c.A)) (i:=0) 10 (by decide) (Z3 3) rfl rfl (.iU rfl) rfl rfl rfl rfl rfl rfl (.inr ⟨rfl,by decide⟩)
 intro⟨i,Z⟩;have Z:i<=S.length:=Z;have hw:IntKind.i64.wrap ((i:Int)+1)=((i+1:Nat):Int):=by rw[ai (by omega) (by omega)];omega
 have lLi:=lL i
 conv=>whnf
 refine ae.dec (λh=>?_) (λh=>?_)
 focus
  have T:i<S.length:=q0s.1 h;have e3:(S.take (i+1)).flatMap (pkS N c.A)=(S.take i).flatMap (pkS N c.A)++pkS N c.A S[i]:=by rw[Y8 T,List.flatMap_append];simp
  conv=>whnf
  refine Idx.mk i rfl T ?_
  conv=>whnf
  refine aw (gv T (q0p _)) ?_
  conv=>whnf
  refine aR.mk {j:Nat//j<=N.length} 9 (λj=>UT k c N S ((S.take i).flatMap (pkS N c.A)++pkS (N.take j.val) c.A S[i]) S[i] i j.val) (λj=>N.length-j.val) ⟨0,Y5 _⟩ ?_ ?_
  focus
   exact x4 (c:=c) (N:=N) (S:=S) (L:=(S.take i).flatMap (pkS N c.A)++pkS (N.take 0) c.A S[i]) (s:=S[i]) (i:=i) (j:=0) 8 (by decide) (Z3 3) rfl rfl (.rw (by decide) rfl (by rw[Z6];rfl)) rfl rfl rfl rfl rfl rfl rfl rfl rfl rfl (.inl ⟨_,rfl,by rw[dH];exact congrArg ruL (q1d _).symm⟩)
  intro⟨j,hj⟩;have hj:j<=N.length:=hj;have H:IntKind.i64.wrap ((j:Int)+1)=((j+1:Nat):Int):=by rw[ai (by omega) (by omega)];omega
  obtain⟨L,J⟩:∃L,L=(S.take i).flatMap (pkS N c.A)++pkS (N.take j) c.A S[i]:=⟨_,rfl⟩
  have bL:L.length<=1001000:=by
   have h1:=lP (N.take j) S[i];rw[q0d]at h1;rw[J,Z6];omega
  rw[<-J]
  conv=>whnf
  refine ae.dec (λh=>?_) (λh=>?_)
  focus
   have F:j<N.length:=q0s.1 h;obtain⟨r,hr⟩:=gN N[j] (q0g F);have er:rul c.A N[j]=r:=by unfold rul;rw[hr];rfl
   have U:=xY (R:=c.A) (s:=S[i]) F;rw[er]at U;have K:N.length-(j+1)<N.length-j:=by omega
   have y1:dR r.src S[i]=true->L++ [r]=(S.take i).flatMap (pkS N c.A)++pkS (N.take (j+1)) c.A S[i]:=λq=>by rw[U,if_pos (bE.1 q),J,q0o]
   have y0:dR r.src S[i]=false->L=(S.take i).flatMap (pkS N c.A)++pkS (N.take (j+1)) c.A S[i]:=λq=>by
    have:r.src≠S[i]:=λe=>by rw[bE.2 e]at q;cases q
    rw[U,if_neg this,q1d,J]
   have hsL:bl (ruL L) 0 (L.length*5)=some (ruL L):=bC (jw L);have hbL:(L.length+1)*56<=140737488355328:=by omega
   clear U
   conv=>whnf
   refine Idx.mk j rfl F ?_
   conv=>whnf
   refine aw (gv F (q0p _)) ?_
   conv=>whnf
   refine Ask.mk _ (aZ (m:=c) (g:=gR) (k:=N[j]) bS mkR rfl rfl rfl lC hr) ?_
   conv=>whnf
   refine ae.sb (λz=>?_) (λz=>?_)
   focus
    have q:=y1 z
    conv=>whnf
    refine Ask.mk _ (aZ (m:=c) (g:=gR) (k:=N[j]) bS mkR rfl rfl rfl lC hr) ?_
    conv=>whnf
    refine bI.grow 5 56 _ _ _ _ _ _ UN (.old rfl) rfl rfl (.rw rfl hsL) hbL ?_
    conv=>whnf
    exact⟨⟨j+1,F⟩,K,x4 (c:=c) (N:=N) (S:=S) (L:=(S.take i).flatMap (pkS N c.A)++pkS (N.take (j+1)) c.A S[i]) (s:=S[i]) (i:=i) (j:=j+1) 10 (by decide) (Z3 3) rfl rfl (.rw (by decide) rfl (by rw[<-q,Z6];rfl)) rfl rfl rfl rfl rfl rfl (congrArg (AV.si .i64) H) rfl rfl rfl (.inl ⟨_,rfl,by rw[<-q];exact xW L r⟩)⟩
   have q:=y0 z
   conv=>whnf
   exact⟨⟨j+1,F⟩,K,x4 (c:=c) (N:=N) (S:=S) (L:=(S.take i).flatMap (pkS N c.A)++pkS (N.take (j+1)) c.A S[i]) (s:=S[i]) (i:=i) (j:=j+1) 8 (by decide) (Z3 3) rfl rfl (.rw (by decide) rfl (by rw[<-q])) rfl rfl rfl rfl rfl rfl (congrArg (AV.si .i64) H) rfl rfl rfl (.inl ⟨_,rfl,by rw[<-q];exact dH L⟩)⟩
  have ej:j=N.length:=by have h:¬(j:Int)<(N.length:Int):=h;omega
  have eL:L=(S.take (i+1)).flatMap (pkS N c.A):=by rw[J,ej,q0l,e3]
  conv=>whnf
  exact⟨⟨i+1,T⟩,by show S.length-(i+1)<S.length-i;omega,Ee (c:=c) (N:=N) (S:=S) (L:=(S.take (i+1)).flatMap (pkS N c.A)) (i:=i+1) 8 (by decide) (Z3 3) rfl rfl (.rw (by decide) rfl (by rw[eL])) rfl rfl (congrArg (AV.si .i64) hw) rfl rfl rfl (.inl ⟨_,rfl,by rw[eL];exact dH _⟩)⟩
 have ei:i=S.length:=by have h:¬(i:Int)<(S.length:Int):=h;omega
 have eF:(S.take i).flatMap (pkS N c.A)=pkF c.A a:=by rw[ei,q0l,fin]
 conv=>whnf
 exact⟨_,c,Re.UL rfl (congrArg List.length eF) rfl (ja _) (jw _) (by rw[eF]),u,mW rfl rfl⟩
def lD(A:Gr)(L:List Rl):Gr:=L.foldl (λA r=>dA A r.dst) A
theorem Gb{A:Gr}{L:List Rl}{i:Nat}(h:i<L.length):lD A (L.take (i+1))=dA (lD A (L.take i)) L[i].dst:=by
 unfold lD;rw[Y8 h,q3k];rfl
theorem sV{K V:Type} [DecidableEq K]{A:List (K×V)}{k:K}{e:K×V}(h:e∈dA A k):e∈A:=by
 unfold dA at h;split at h
 ·exact h
 ·exact List.mem_of_mem_eraseIdx h
theorem tZ:∀{L:List Rl} {A:Gr} {e:Tx×Rl},e∈lD A L->e∈A
 | [],_,_,h=>h
 |r::L,A,e,h=>sV (tZ (L:=L) (A:=dA A r.dst) h)
def KGo:FuncId->EP:=bg 69 [] KPk
theorem UU:aV KGo:=au BH (by kernel_rfl) (by kernel_rfl)
def Gc (k:Tx) (c:GrC) (I:List Nat) (V:List Tx) (W:List Tx):AE×AH:=(mkE [(0,.ptr 0 (0)),(1,AV.fn 128 [] [.ptr 2 0]),(5,.rw 8 0 V.length 1 0),(6,.rw 9 0 W.length 1 0),(20,.ptr 3 (0))],mkH [(0,.cells [.map 1] true),(1,c.O kT gR),(2,.cells [.ss k] true),(3,AO.iter 1 c.cl (fH c.bs I)),(8,.cells (strs (V)) true),(9,.cells (strs (W)) true)])
theorem cO{k:Tx}{c:GrC}{I:List Nat}{V:List Tx}{W:List Tx}{p n:Nat}{σ:AE}{H:AH}(a:Nat)(d:Nat)(B:a≠0/\a≠1/\a≠2/\a≠3/\a≠d/\d≠0/\d≠1/\d≠2/\d≠3)(C:p<=3)(m:aj (pa 0) σ= .ptr 0 (0))(o:ah H 10 (λb=>if b=8 then a else if b=9 then d else b) (aj (pa 1) σ) (AV.fn 128 [] [.ptr 2 0]))(r:ah H 10 (λb=>if b=8 then a else if b=9 then d else b) (aj (pa 5) σ) (.rw 8 0 V.length 1 0))(s:ah H 10 (λb=>if b=8 then a else if b=9 then d else b) (aj (pa 6) σ) (.rw 9 0 W.length 1 0))(f:aj (pa 20) σ= .ptr 3 (0))(t:H.get 0=some (.cells [.map 1] true))(u:H.get 1=some (c.O kT gR))(v:H.get 2=some (.cells [.ss k] true))(w:H.get 3=some (AO.iter 1 c.cl (fH c.bs I)))(z:(∃l,H.get a=some (.cells l true)/\l.map mk=strs (V))∨((V)=[]/\n<=a))(A:(∃l,H.get d=some (.cells l true)/\l.map mk=strs (W))∨((W)=[]/\n<=d)):Cov p σ H n ((Gc k c I V W).1,(Gc k c I V W).2,10):=
 Cov.ofB (λb=>if b=8 then a else if b=9 then d else b) (by omega) (λb e=>by repeat' rw[if_neg (by omega)]) ⟨.ptr (by decide) m,o,r,s,.ptr (by decide) f,trivial⟩ ⟨.inl ⟨_,t,ao.cm (k:=2) rfl (by decide) (λb e=>by rw[if_neg (by omega),if_neg (by omega)])⟩,.inl ⟨_,u,ao.cm (k:=0) (bp eo oh) (by decide) (λb e=>absurd e (q0n b))⟩,.inl ⟨_,v,ao.cm (k:=0) rfl (by decide) (λb e=>absurd e (q0n b))⟩,.inl ⟨_,w,ao.Iq (by decide) rfl⟩,z.elim (λ⟨l,h,g⟩=> .inl ⟨_,h,ao.bA (ck _) (by rw[g,di]) (λq=>q)⟩) (λh=> .inr ⟨by rw[h.1];rfl,h.2⟩),A.elim (λ⟨l,h,g⟩=> .inl ⟨_,h,ao.bA (ck _) (by rw[g,di]) (λq=>q)⟩) (λh=> .inr ⟨by rw[h.1];rfl,h.2⟩),trivial⟩ rfl (λx i y j=>by simp only[Z4,Z5,or_false]at i j;rcases i with rfl|rfl|rfl|rfl|rfl|rfl<;>rcases j with rfl|rfl|rfl|rfl|rfl|rfl<;>simp<;>omega)
def Ge (k:Tx) (c:GrC) (N:List Tx) (S:List Tx) (L:List Rl) (i:Nat):AE×AH:=(mkE [(0,.ptr 0 (0)),(5,.fr N.length 1 (strs N)),(9,AV.rw 8 0 L.length 5 0),(41,.fr S.length 1 (strs S)),(42,.si .i64 ((S.length:Int))),(43,.si .i64 ((i:Int)))],mkH [(0,.cells [.map 1] true),(1,c.O kT gR),(2,.cells [.ss k] true),(8,.cells (ruL (L)) true)])
theorem x5{k:Tx}{c:GrC}{N:List Tx}{S:List Tx}{L:List Rl}{i:Nat}{p n:Nat}{σ:AE}{H:AH}(a:Nat)(A:a≠0/\a≠1/\a≠2)(B:p<=3)(r:aj (pa 0) σ= .ptr 0 (0))(s:aj (pa 5) σ= .fr N.length 1 (strs N))(t:ah H 9 (λb=>if b=8 then a else b) (aj (pa 9) σ) (AV.rw 8 0 L.length 5 0))(e:aj (pa 41) σ= .fr S.length 1 (strs S))(f:mk (aj (pa 42) σ)= .si .i64 ((S.length:Int)))(j:mk (aj (pa 43) σ)= .si .i64 ((i:Int)))(u:H.get 0=some (.cells [.map 1] true))(v:H.get 1=some (c.O kT gR))(w:H.get 2=some (.cells [.ss k] true))(z:(∃l,H.get a=some (.cells l true)/\l.map mk=ruL (L))∨((L)=[]/\n<=a)):Cov p σ H n ((Ge k c N S L i).1,(Ge k c N S L i).2,9):=
 Cov.ofB (λb=>if b=8 then a else b) (by omega) (λb d=>by repeat' rw[if_neg (by omega)]) ⟨.ptr (by decide) r,ah.frE s,t,ah.frE e,.int f,.int j,trivial⟩ ⟨.inl ⟨_,u,ao.cm (k:=2) rfl (by decide) (λb d=>by rw[if_neg (by omega)])⟩,.inl ⟨_,v,ao.cm (k:=0) (bp eo oh) (by decide) (λb d=>absurd d (q0n b))⟩,.inl ⟨_,w,ao.cm (k:=0) rfl (by decide) (λb d=>absurd d (q0n b))⟩,z.elim (λ⟨l,h,g⟩=> .inl ⟨_,h,ao.bA (ja _) (by rw[g,dH]) (λq=>q)⟩) (λh=> .inr ⟨by rw[h.1];rfl,h.2⟩),trivial⟩ rfl (λx m y o=>by simp only[Z4,Z5,or_false]at m o;rcases m with rfl|rfl|rfl|rfl<;>rcases o with rfl|rfl|rfl|rfl<;>simp<;>omega)
def Gf (k:Tx) (c:GrC) (N:List Tx) (S:List Tx) (L:List Rl) (s:Tx) (i:Nat) (j:Nat):AE×AH:=(mkE [(0,.ptr 0 (0)),(5,.fr N.length 1 (strs N)),(9,AV.rw 8 0 L.length 5 0),(11,.ss (s)),(41,.fr S.length 1 (strs S)),(42,.si .i64 ((S.length:Int))),(43,.si .i64 ((i:Int))),(47,.fr N.length 1 (strs N)),(48,.si .i64 ((N.length:Int))),(49,.si .i64 ((j:Int)))],mkH [(0,.cells [.map 1] true),(1,c.O kT gR),(2,.cells [.ss k] true),(8,.cells (ruL (L)) true)])
theorem ry{k:Tx}{c:GrC}{N:List Tx}{S:List Tx}{L:List Rl}{s:Tx}{i:Nat}{j:Nat}{p n:Nat}{σ:AE}{H:AH}(a:Nat)(G:a≠0/\a≠1/\a≠2)(I:p<=3)(z:aj (pa 0) σ= .ptr 0 (0))(A:aj (pa 5) σ= .fr N.length 1 (strs N))(B:ah H 9 (λb=>if b=8 then a else b) (aj (pa 9) σ) (AV.rw 8 0 L.length 5 0))(e:mk (aj (pa 11) σ)= .ss (s))(f:aj (pa 41) σ= .fr S.length 1 (strs S))(m:mk (aj (pa 42) σ)= .si .i64 ((S.length:Int)))(o:mk (aj (pa 43) σ)= .si .i64 ((i:Int)))(r:aj (pa 47) σ= .fr N.length 1 (strs N))(t:mk (aj (pa 48) σ)= .si .i64 ((N.length:Int)))(u:mk (aj (pa 49) σ)= .si .i64 ((j:Int)))(C:H.get 0=some (.cells [.map 1] true))(D:H.get 1=some (c.O kT gR))(E:H.get 2=some (.cells [.ss k] true))(F:(∃l,H.get a=some (.cells l true)/\l.map mk=ruL (L))∨((L)=[]/\n<=a)):Cov p σ H n ((Gf k c N S L s i j).1,(Gf k c N S L s i j).2,9):=
 Cov.ofB (λb=>if b=8 then a else b) (by omega) (λb d=>by repeat' rw[if_neg (by omega)]) ⟨.ptr (by decide) z,ah.frE A,B,.str e,ah.frE f,.int m,.int o,ah.frE r,.int t,.int u,trivial⟩ ⟨.inl ⟨_,C,ao.cm (k:=2) rfl (by decide) (λb d=>by rw[if_neg (by omega)])⟩,.inl ⟨_,D,ao.cm (k:=0) (bp eo oh) (by decide) (λb d=>absurd d (q0n b))⟩,.inl ⟨_,E,ao.cm (k:=0) rfl (by decide) (λb d=>absurd d (q0n b))⟩,F.elim (λ⟨l,h,g⟩=> .inl ⟨_,h,ao.bA (ja _) (by rw[g,dH]) (λq=>q)⟩) (λh=> .inr ⟨by rw[h.1];rfl,h.2⟩),trivial⟩ rfl (λx v y w=>by simp only[Z4,Z5,or_false]at v w;rcases v with rfl|rfl|rfl|rfl<;>rcases w with rfl|rfl|rfl|rfl<;>simp<;>omega)
def grG (k:Tx) (c:GrC) (L:List Rl) (i:Nat):AE×AH:=(mkE [(0,.ptr 0 (0)),(5,.rw 8 0 L.length 5 0),(11,.rw 8 0 L.length 5 0),(12,.si .i64 ((L.length:Int))),(13,.si .i64 ((i:Int)))],mkH [(0,.cells [.map 1] true),(1,c.O kT gR),(2,.cells [.ss k] true),(8,.cells (ruL (L)) true)])
theorem It{k:Tx}{c:GrC}{L:List Rl}{i:Nat}{p n:Nat}{σ:AE}{H:AH}(a:Nat)(z:a≠0/\a≠1/\a≠2)(A:p<=3)(r:aj (pa 0) σ= .ptr 0 (0))(s:ah H 9 (λb=>if b=8 then a else b) (aj (pa 5) σ) (.rw 8 0 L.length 5 0))(e:ah H 9 (λb=>if b=8 then a else b) (aj (pa 11) σ) (.rw 8 0 L.length 5 0))(f:mk (aj (pa 12) σ)= .si .i64 ((L.length:Int)))(j:mk (aj (pa 13) σ)= .si .i64 ((i:Int)))(t:H.get 0=some (.cells [.map 1] true))(u:H.get 1=some (c.O kT gR))(v:H.get 2=some (.cells [.ss k] true))(w:(∃l,H.get a=some (.cells l true)/\l.map mk=ruL (L))∨((L)=[]/\n<=a)):Cov p σ H n ((grG k c L i).1,(grG k c L i).2,9):=
 Cov.ofB (λb=>if b=8 then a else b) (by omega) (λb d=>by repeat' rw[if_neg (by omega)]) ⟨.ptr (by decide) r,s,e,.int f,.int j,trivial⟩ ⟨.inl ⟨_,t,ao.cm (k:=2) rfl (by decide) (λb d=>by rw[if_neg (by omega)])⟩,.inl ⟨_,u,ao.cm (k:=0) (bp eo oh) (by decide) (λb d=>absurd d (q0n b))⟩,.inl ⟨_,v,ao.cm (k:=0) rfl (by decide) (λb d=>absurd d (q0n b))⟩,w.elim (λ⟨l,h,g⟩=> .inl ⟨_,h,ao.bA (ja _) (by rw[g,dH]) (λq=>q)⟩) (λh=> .inr ⟨by rw[h.1];rfl,h.2⟩),trivial⟩ rfl (λx m y o=>by simp only[Z4,Z5,or_false]at m o;rcases m with rfl|rfl|rfl|rfl<;>rcases o with rfl|rfl|rfl|rfl<;>simp<;>omega)
theorem Gg(x:Gr)(k:Tx)(c:GrC)(B:Ky x c)(h1000:c.A.length<=1000):ax KGo 5 69 [.ptr 0 0,.ss k] (mkH (bM (grO c) 0)) 2 (gm GrB (lD c.A (pkF c.A (λr=>decide (r.src=k)||decide (r.dst=k)))) (.si .i64 (pkF c.A (λr=>decide (r.src=k)||decide (r.dst=k))).length)):=by
 obtain⟨a,F⟩:∃a:Rl->Bool,a=λr=>decide (r.src=k)||decide (r.dst=k):=⟨_,rfl⟩
 rw[<-F]
 conv=>whnf
 refine aR.mk {I:List Nat//RgI c I} 10 (λI=>Gc k c I.val ((soV c.A a I.val).map Prod.fst) ((soV c.A a I.val).map λe=>e.2.src)) (λI=>c.A.length-I.val.length) ⟨[],.nil⟩ ?_ ?_
 focus
  exact cO (c:=c) (I:=[]) (V:=((soV c.A a []).map Prod.fst)) (W:=((soV c.A a []).map λe=>e.2.src)) 8 9 (by decide) (Z3 3) rfl (ah.dj (k:=3) rfl rfl (by decide) (λb w=>by rw[if_neg (by omega),if_neg (by omega)])) (.iU rfl) (.iU rfl) rfl rfl rfl rfl rfl (.inr ⟨rfl,by decide⟩) (.inr ⟨rfl,by decide⟩)
 intro⟨I,X⟩;have hIl:=X.len;have hle:(soV c.A a I).length<=I.length:=Y7 (nR _) (Nat.le_of_eq (vo X));have p:(((soV c.A a I).map Prod.fst).length+1)*16<=140737488355328:=by rw[Y9];omega
 have u:(((soV c.A a I).map λe=>e.2.src).length+1)*16<=140737488355328:=by rw[Y9];omega
 have C:bl (strs ((soV c.A a I).map Prod.fst)) 0 (((soV c.A a I).map Prod.fst).length*1)=some (strs ((soV c.A a I).map Prod.fst)):=bC (by rw[br,q0p]);have D:bl (strs ((soV c.A a I).map λe=>e.2.src)) 0 (((soV c.A a I).map λe=>e.2.src).length*1)=some (strs ((soV c.A a I).map λe=>e.2.src)):=bC (by rw[br,q0p])
 conv=>whnf
 refine Nxt.mp 3 1 c.cl _ _ _ rfl rfl rfl rfl B.o.lt (λho=>?_) (λi e x E hx hn=>?_)
 rotate_left
 focus
  obtain⟨P,rfl⟩:=vm E;obtain⟨n,hi⟩:=X.step P hx hn;have y:fH c.bs I++ [x]=fH c.bs (I++ [i]):=(qa hx).symm;have v:c.A.length-(I++ [i]).length<c.A.length-I.length:=by have:=n.len;simp only[Z6,q2l]at this⊢;omega
  have hnd:=B.o.nd;have Y:=xZ (so:=a) (I:=I) P
  have yes:a c.A[i].2=true->((strs ((soV c.A a I).map Prod.fst)++ [AV.ss c.A[i].1]).map mk=strs ((soV c.A a (I++ [i])).map Prod.fst)/\((soV c.A a I).map Prod.fst).length+1=((soV c.A a (I++ [i])).map Prod.fst).length)/\(strs ((soV c.A a I).map λe=>e.2.src)++ [AV.ss c.A[i].2.src]).map mk=strs ((soV c.A a (I++ [i])).map λe=>e.2.src)/\((soV c.A a I).map λe=>e.2.src).length+1=((soV c.A a (I++ [i])).map λe=>e.2.src).length:=λq=>by
   have eV:(soV c.A a (I++ [i])).map Prod.fst=(soV c.A a I).map Prod.fst++ [c.A[i].1]:=by rw[Y,if_pos q,q0r];rfl
   have eW:(soV c.A a (I++ [i])).map (λe=>e.2.src)=(soV c.A a I).map (λe=>e.2.src)++ [c.A[i].2.src]:=by rw[Y,if_pos q,q0r];rfl
   rw[eV,eW];exact⟨⟨ez _ _,by rw[Z6];rfl⟩,ez _ _,by rw[Z6];rfl⟩
  have no:a c.A[i].2=false->soV c.A a (I++ [i])=soV c.A a I:=λq=>by
   rw[Y,q];simp
  clear Y
  conv=>whnf
  refine Ent.mp 3 1 c.cl i x (fH c.bs I) (jv kT gR c.A) c.bs _ rfl rfl rfl hnd hx E ?_
  conv=>whnf
  refine ae.sb (λz=>?_) (λz=>?_)
  focus
   have q:=yes (by rw[F];show(decide _||decide _)=true;rw[decide_eq_true (bE.1 z)];rfl)
   conv=>whnf
   refine⟨?_,?_,?_,?_,?_,?_,trivial⟩
   focus
    conv=>whnf
    refine bI.grow 1 16 _ _ _ _ _ _ tyT (.old rfl) rfl rfl (.rw rfl C) p ?_
    conv=>whnf
    refine bI.grow 1 16 _ _ _ _ _ _ tyT (.old rfl) rfl rfl (.rw rfl D) u ?_
    conv=>whnf
    refine⟨⟨I++ [i],n⟩,v,?_⟩;refine cO (c:=c) (I:=I++ [i]) (V:=((soV c.A a (I++ [i])).map Prod.fst)) (W:=((soV c.A a (I++ [i])).map λe=>e.2.src)) 13 15 ?_ ?_ ?_ ?_ ?_ ?_ ?_ ?_ ?_ ?_ ?_ ?_ ?_
    ·exact by decide
    ·exact Z3 3
    ·exact rfl
    ·exact ah.dj (k:=3) rfl rfl (by decide) (λb w=>by rw[if_neg (by omega),if_neg (by omega)])
    ·exact .rw (by decide) rfl q.1.2
    ·exact .rw (by decide) rfl q.2.2
    ·exact rfl
    ·exact rfl
    ·exact rfl
    ·exact rfl
    ·exact congrArg (λs=>some (AO.iter 1 c.cl s)) y
    ·exact .inl ⟨_,rfl,q.1.1⟩
    ·exact .inl ⟨_,rfl,q.2.1⟩
   focus
    conv=>whnf
    refine bI.grow 1 16 _ _ _ _ _ _ tyT (.old rfl) rfl rfl (.rw rfl C) p ?_
    conv=>whnf
    refine bI.grow 1 16 _ _ _ _ _ _ tyT (.old rfl) rfl rfl (.rw rfl D) u ?_
    conv=>whnf
    refine⟨⟨I++ [i],n⟩,v,?_⟩;refine cO (c:=c) (I:=I++ [i]) (V:=((soV c.A a (I++ [i])).map Prod.fst)) (W:=((soV c.A a (I++ [i])).map λe=>e.2.src)) 13 15 ?_ ?_ ?_ ?_ ?_ ?_ ?_ ?_ ?_ ?_ ?_ ?_ ?_
    ·exact by decide
    ·exact Z3 3
    ·exact rfl
    ·exact ah.dj (k:=3) rfl rfl (by decide) (λb w=>by rw[if_neg (by omega),if_neg (by omega)])
    ·exact .rw (by decide) rfl q.1.2
    ·exact .rw (by decide) rfl q.2.2
    ·exact rfl
    ·exact rfl
    ·exact rfl
    ·exact rfl
    ·exact congrArg (λs=>some (AO.iter 1 c.cl s)) y
    ·exact .inl ⟨_,rfl,q.1.1⟩
    ·exact .inl ⟨_,rfl,q.2.1⟩
   focus
    conv=>whnf
    refine bI.grow 1 16 _ _ _ _ _ _ tyT (.old rfl) rfl rfl (.rw rfl C) p ?_
    conv=>whnf
    refine bI.grow 1 16 _ _ _ _ _ _ tyT (.old rfl) rfl rfl (.rw rfl D) u ?_
    conv=>whnf
    refine⟨⟨I++ [i],n⟩,v,?_⟩;refine cO (c:=c) (I:=I++ [i]) (V:=((soV c.A a (I++ [i])).map Prod.fst)) (W:=((soV c.A a (I++ [i])).map λe=>e.2.src)) 14 15 ?_ ?_ ?_ ?_ ?_ ?_ ?_ ?_ ?_ ?_ ?_ ?_ ?_
    ·exact by decide
    ·exact Z3 3
    ·exact rfl
    ·exact ah.dj (k:=3) rfl rfl (by decide) (λb w=>by rw[if_neg (by omega),if_neg (by omega)])
    ·exact .rw (by decide) rfl q.1.2
    ·exact .rw (by decide) rfl q.2.2
    ·exact rfl
    ·exact rfl
    ·exact rfl
    ·exact rfl
    ·exact congrArg (λs=>some (AO.iter 1 c.cl s)) y
    ·exact .inl ⟨_,rfl,q.1.1⟩
    ·exact .inl ⟨_,rfl,q.2.1⟩
   focus
    conv=>whnf
    refine bI.grow 1 16 _ _ _ _ _ _ tyT (.old rfl) rfl rfl (.rw rfl C) p ?_
    conv=>whnf
    refine bI.grow 1 16 _ _ _ _ _ _ tyT (.old rfl) rfl rfl (.rw rfl D) u ?_
    conv=>whnf
    refine⟨⟨I++ [i],n⟩,v,?_⟩;refine cO (c:=c) (I:=I++ [i]) (V:=((soV c.A a (I++ [i])).map Prod.fst)) (W:=((soV c.A a (I++ [i])).map λe=>e.2.src)) 13 15 ?_ ?_ ?_ ?_ ?_ ?_ ?_ ?_ ?_ ?_ ?_ ?_ ?_
    ·exact by decide
    ·exact Z3 3
    ·exact rfl
    ·exact ah.dj (k:=3) rfl rfl (by decide) (λb w=>by rw[if_neg (by omega),if_neg (by omega)])
    ·exact .rw (by decide) rfl q.1.2
    ·exact .rw (by decide) rfl q.2.2
    ·exact rfl
    ·exact rfl
    ·exact rfl
    ·exact rfl
    ·exact congrArg (λs=>some (AO.iter 1 c.cl s)) y
    ·exact .inl ⟨_,rfl,q.1.1⟩
    ·exact .inl ⟨_,rfl,q.2.1⟩
   focus
    conv=>whnf
    refine bI.grow 1 16 _ _ _ _ _ _ tyT (.old rfl) rfl rfl (.rw rfl C) p ?_
    conv=>whnf
    refine bI.grow 1 16 _ _ _ _ _ _ tyT (.old rfl) rfl rfl (.rw rfl D) u ?_
    conv=>whnf
    refine⟨⟨I++ [i],n⟩,v,?_⟩;refine cO (c:=c) (I:=I++ [i]) (V:=((soV c.A a (I++ [i])).map Prod.fst)) (W:=((soV c.A a (I++ [i])).map λe=>e.2.src)) 14 15 ?_ ?_ ?_ ?_ ?_ ?_ ?_ ?_ ?_ ?_ ?_ ?_ ?_
    ·exact by decide
    ·exact Z3 3
    ·exact rfl
    ·exact ah.dj (k:=3) rfl rfl (by decide) (λb w=>by rw[if_neg (by omega),if_neg (by omega)])
    ·exact .rw (by decide) rfl q.1.2
    ·exact .rw (by decide) rfl q.2.2
    ·exact rfl
    ·exact rfl
    ·exact rfl
    ·exact rfl
    ·exact congrArg (λs=>some (AO.iter 1 c.cl s)) y
    ·exact .inl ⟨_,rfl,q.1.1⟩
    ·exact .inl ⟨_,rfl,q.2.1⟩
   focus
    conv=>whnf
    refine bI.grow 1 16 _ _ _ _ _ _ tyT (.old rfl) rfl rfl (.rw rfl C) p ?_
    conv=>whnf
    refine bI.grow 1 16 _ _ _ _ _ _ tyT (.old rfl) rfl rfl (.rw rfl D) u ?_
    conv=>whnf
    refine⟨⟨I++ [i],n⟩,v,?_⟩;refine cO (c:=c) (I:=I++ [i]) (V:=((soV c.A a (I++ [i])).map Prod.fst)) (W:=((soV c.A a (I++ [i])).map λe=>e.2.src)) 14 15 ?_ ?_ ?_ ?_ ?_ ?_ ?_ ?_ ?_ ?_ ?_ ?_ ?_
    ·exact by decide
    ·exact Z3 3
    ·exact rfl
    ·exact ah.dj (k:=3) rfl rfl (by decide) (λb w=>by rw[if_neg (by omega),if_neg (by omega)])
    ·exact .rw (by decide) rfl q.1.2
    ·exact .rw (by decide) rfl q.2.2
    ·exact rfl
    ·exact rfl
    ·exact rfl
    ·exact rfl
    ·exact congrArg (λs=>some (AO.iter 1 c.cl s)) y
    ·exact .inl ⟨_,rfl,q.1.1⟩
    ·exact .inl ⟨_,rfl,q.2.1⟩
  conv=>whnf
  refine ae.sb (λz2=>?_) (λz2=>?_)
  focus
   have q:=yes (by rw[F];show(decide _||decide _)=true;rw[decide_eq_true (bE.1 z2)];simp)
   conv=>whnf
   refine⟨?_,?_,?_,?_,?_,?_,trivial⟩
   focus
    conv=>whnf
    refine bI.grow 1 16 _ _ _ _ _ _ tyT (.old rfl) rfl rfl (.rw rfl C) p ?_
    conv=>whnf
    refine bI.grow 1 16 _ _ _ _ _ _ tyT (.old rfl) rfl rfl (.rw rfl D) u ?_
    conv=>whnf
    refine⟨⟨I++ [i],n⟩,v,?_⟩;refine cO (c:=c) (I:=I++ [i]) (V:=((soV c.A a (I++ [i])).map Prod.fst)) (W:=((soV c.A a (I++ [i])).map λe=>e.2.src)) 13 15 ?_ ?_ ?_ ?_ ?_ ?_ ?_ ?_ ?_ ?_ ?_ ?_ ?_
    ·exact by decide
    ·exact Z3 3
    ·exact rfl
    ·exact ah.dj (k:=3) rfl rfl (by decide) (λb w=>by rw[if_neg (by omega),if_neg (by omega)])
    ·exact .rw (by decide) rfl q.1.2
    ·exact .rw (by decide) rfl q.2.2
    ·exact rfl
    ·exact rfl
    ·exact rfl
    ·exact rfl
    ·exact congrArg (λs=>some (AO.iter 1 c.cl s)) y
    ·exact .inl ⟨_,rfl,q.1.1⟩
    ·exact .inl ⟨_,rfl,q.2.1⟩
   focus
    conv=>whnf
    refine bI.grow 1 16 _ _ _ _ _ _ tyT (.old rfl) rfl rfl (.rw rfl C) p ?_
    conv=>whnf
    refine bI.grow 1 16 _ _ _ _ _ _ tyT (.old rfl) rfl rfl (.rw rfl D) u ?_
    conv=>whnf
    refine⟨⟨I++ [i],n⟩,v,?_⟩;refine cO (c:=c) (I:=I++ [i]) (V:=((soV c.A a (I++ [i])).map Prod.fst)) (W:=((soV c.A a (I++ [i])).map λe=>e.2.src)) 13 15 ?_ ?_ ?_ ?_ ?_ ?_ ?_ ?_ ?_ ?_ ?_ ?_ ?_
    ·exact by decide
    ·exact Z3 3
    ·exact rfl
    ·exact ah.dj (k:=3) rfl rfl (by decide) (λb w=>by rw[if_neg (by omega),if_neg (by omega)])
    ·exact .rw (by decide) rfl q.1.2
    ·exact .rw (by decide) rfl q.2.2
    ·exact rfl
    ·exact rfl
    ·exact rfl
    ·exact rfl
    ·exact congrArg (λs=>some (AO.iter 1 c.cl s)) y
    ·exact .inl ⟨_,rfl,q.1.1⟩
    ·exact .inl ⟨_,rfl,q.2.1⟩
   focus
    conv=>whnf
    refine bI.grow 1 16 _ _ _ _ _ _ tyT (.old rfl) rfl rfl (.rw rfl C) p ?_
    conv=>whnf
    refine bI.grow 1 16 _ _ _ _ _ _ tyT (.old rfl) rfl rfl (.rw rfl D) u ?_
    conv=>whnf
    refine⟨⟨I++ [i],n⟩,v,?_⟩;refine cO (c:=c) (I:=I++ [i]) (V:=((soV c.A a (I++ [i])).map Prod.fst)) (W:=((soV c.A a (I++ [i])).map λe=>e.2.src)) 14 15 ?_ ?_ ?_ ?_ ?_ ?_ ?_ ?_ ?_ ?_ ?_ ?_ ?_
    ·exact by decide
    ·exact Z3 3
    ·exact rfl
    ·exact ah.dj (k:=3) rfl rfl (by decide) (λb w=>by rw[if_neg (by omega),if_neg (by omega)])
    ·exact .rw (by decide) rfl q.1.2
    ·exact .rw (by decide) rfl q.2.2
    ·exact rfl
    ·exact rfl
    ·exact rfl
    ·exact rfl
    ·exact congrArg (λs=>some (AO.iter 1 c.cl s)) y
    ·exact .inl ⟨_,rfl,q.1.1⟩
    ·exact .inl ⟨_,rfl,q.2.1⟩
   focus
    conv=>whnf
    refine bI.grow 1 16 _ _ _ _ _ _ tyT (.old rfl) rfl rfl (.rw rfl C) p ?_
    conv=>whnf
    refine bI.grow 1 16 _ _ _ _ _ _ tyT (.old rfl) rfl rfl (.rw rfl D) u ?_
    conv=>whnf
    refine⟨⟨I++ [i],n⟩,v,?_⟩;refine cO (c:=c) (I:=I++ [i]) (V:=((soV c.A a (I++ [i])).map Prod.fst)) (W:=((soV c.A a (I++ [i])).map λe=>e.2.src)) 13 15 ?_ ?_ ?_ ?_ ?_ ?_ ?_ ?_ ?_ ?_ ?_ ?_ ?_
    ·exact by decide
    ·exact Z3 3
    ·exact rfl
    ·exact ah.dj (k:=3) rfl rfl (by decide) (λb w=>by rw[if_neg (by omega),if_neg (by omega)])
    ·exact .rw (by decide) rfl q.1.2
    ·exact .rw (by decide) rfl q.2.2
    ·exact rfl
    ·exact rfl
    ·exact rfl
    ·exact rfl
    ·exact congrArg (λs=>some (AO.iter 1 c.cl s)) y
    ·exact .inl ⟨_,rfl,q.1.1⟩
    ·exact .inl ⟨_,rfl,q.2.1⟩
   focus
    conv=>whnf
    refine bI.grow 1 16 _ _ _ _ _ _ tyT (.old rfl) rfl rfl (.rw rfl C) p ?_
    conv=>whnf
    refine bI.grow 1 16 _ _ _ _ _ _ tyT (.old rfl) rfl rfl (.rw rfl D) u ?_
    conv=>whnf
    refine⟨⟨I++ [i],n⟩,v,?_⟩;refine cO (c:=c) (I:=I++ [i]) (V:=((soV c.A a (I++ [i])).map Prod.fst)) (W:=((soV c.A a (I++ [i])).map λe=>e.2.src)) 14 15 ?_ ?_ ?_ ?_ ?_ ?_ ?_ ?_ ?_ ?_ ?_ ?_ ?_
    ·exact by decide
    ·exact Z3 3
    ·exact rfl
    ·exact ah.dj (k:=3) rfl rfl (by decide) (λb w=>by rw[if_neg (by omega),if_neg (by omega)])
    ·exact .rw (by decide) rfl q.1.2
    ·exact .rw (by decide) rfl q.2.2
    ·exact rfl
    ·exact rfl
    ·exact rfl
    ·exact rfl
    ·exact congrArg (λs=>some (AO.iter 1 c.cl s)) y
    ·exact .inl ⟨_,rfl,q.1.1⟩
    ·exact .inl ⟨_,rfl,q.2.1⟩
   focus
    conv=>whnf
    refine bI.grow 1 16 _ _ _ _ _ _ tyT (.old rfl) rfl rfl (.rw rfl C) p ?_
    conv=>whnf
    refine bI.grow 1 16 _ _ _ _ _ _ tyT (.old rfl) rfl rfl (.rw rfl D) u ?_
    conv=>whnf
    refine⟨⟨I++ [i],n⟩,v,?_⟩;refine cO (c:=c) (I:=I++ [i]) (V:=((soV c.A a (I++ [i])).map Prod.fst)) (W:=((soV c.A a (I++ [i])).map λe=>e.2.src)) 14 15 ?_ ?_ ?_ ?_ ?_ ?_ ?_ ?_ ?_ ?_ ?_ ?_ ?_
    ·exact by decide
    ·exact Z3 3
    ·exact rfl
    ·exact ah.dj (k:=3) rfl rfl (by decide) (λb w=>by rw[if_neg (by omega),if_neg (by omega)])
    ·exact .rw (by decide) rfl q.1.2
    ·exact .rw (by decide) rfl q.2.2
    ·exact rfl
    ·exact rfl
    ·exact rfl
    ·exact rfl
    ·exact congrArg (λs=>some (AO.iter 1 c.cl s)) y
    ·exact .inl ⟨_,rfl,q.1.1⟩
    ·exact .inl ⟨_,rfl,q.2.1⟩
  have q:=no (by rw[F];show(decide _||decide _)=false;rw[decide_eq_false (λe=>by rw[bE.2 e]at z;cases z),decide_eq_false (λe=>by rw[bE.2 e]at z2;cases z2)];rfl)
  conv=>whnf
  refine⟨⟨I++ [i],n⟩,v,?_⟩;refine cO (c:=c) (I:=I++ [i]) (V:=((soV c.A a (I++ [i])).map Prod.fst)) (W:=((soV c.A a (I++ [i])).map λe=>e.2.src)) 8 9 ?_ ?_ ?_ ?_ ?_ ?_ ?_ ?_ ?_ ?_ ?_ ?_ ?_
  ·exact by decide
  ·exact Z3 3
  ·exact rfl
  ·exact ah.dj (k:=3) rfl rfl (by decide) (λb w=>by rw[if_neg (by omega),if_neg (by omega)])
  ·exact .rw (by decide) rfl (by rw[q])
  ·exact .rw (by decide) rfl (by rw[q])
  ·exact rfl
  ·exact rfl
  ·exact rfl
  ·exact rfl
  ·exact congrArg (λs=>some (AO.iter 1 c.cl s)) y
  ·exact .inl ⟨_,rfl,by rw[q];exact di _⟩
  ·exact .inl ⟨_,rfl,by rw[q];exact di _⟩
 have hd:∀e∈c.A,e.2.dst=e.1:=λe E=>B.dst e (by rw[<-B.A];exact E)
 obtain⟨p1,p2⟩:=X.uV B.o.nd B.o.len ho;have pp:(soV c.A a I).Perm (c.A.filter λe=>a e.2):=p1.filter _;have eN:=iv (pp.map Prod.fst);have eS:=iv (pp.map λe=>e.2.src);have lV:((soV c.A a I).map Prod.fst).length<=1000000:=by rw[Y9];omega
 have lW:((soV c.A a I).map λe=>e.2.src).length<=1000000:=by rw[Y9];omega
 obtain⟨N,Z⟩:∃N,N=aI ((soV c.A a I).map Prod.fst):=⟨_,rfl⟩;obtain⟨S,hS⟩:∃S,S=aI ((soV c.A a I).map λe=>e.2.src):=⟨_,rfl⟩;have lN:N.length<=1000:=by rw[Z];have:=dt ((soV c.A a I).map Prod.fst);rw[Y9]at this;omega
 have lS:S.length<=1000:=by rw[hS];have:=dt ((soV c.A a I).map λe=>e.2.src);rw[Y9]at this;omega
 have gN:∀d∈N,∃r,aM c.A d=some r:=λd hd=>by
  rw[Z,(bj _).2,q0t]at hd;obtain⟨e,E,rfl⟩:=hd;exact⟨e.2,fb B.o.key (BG (q1c.1 E).1)⟩
 have fin:S.flatMap (pkS N c.A)=pkF c.A a:=by rw[Z,hS,eN,eS];rfl
 have vN:AV.fr N.length 1 (strs N)= .fr (aI ((soV c.A a I).map Prod.fst)).length 1 (strs (aI ((soV c.A a I).map Prod.fst))):=by rw[Z]
 have vS:AV.fr S.length 1 (strs S)= .fr (aI ((soV c.A a I).map λe=>e.2.src)).length 1 (strs (aI ((soV c.A a I).map λe=>e.2.src))):=by rw[hS]
 clear eN eS pp
 conv=>whnf
 refine⟨_,.fr N.length 1 (strs N),_,.cons (.row (l:=strs ((soV c.A a I).map Prod.fst)) (z:=true) rfl (ck _) (by rw[br,q0p]) rfl) .nil,⟨_,rfl,lV,vN⟩,?_⟩
 conv=>whnf
 refine⟨_,.fr S.length 1 (strs S),_,.cons (.row (l:=strs ((soV c.A a I).map λe=>e.2.src)) (z:=true) rfl (ck _) (by rw[br,q0p]) rfl) .nil,⟨_,rfl,lW,vS⟩,?_⟩;have lP:∀(M:List Tx) (s:Tx),(pkS M c.A s).length<=M.length:=λM s=>by unfold pkS;rw[Y9];exact nR _
 have lL:∀i,((S.take i).flatMap (pkS N c.A)).length<=1000000:=λi=>by
  have h1:=vr (L:=S.take i) (f:=pkS N c.A) (b:=1000) λs _=>Y7 (lP N s) lN
  have h2:(S.take i).length<=1000:=Y7 (by rw[q0d];exact Nat.min_le_right _ _) lS;omega
 conv=>whnf
 refine aR.mk {i:Nat//i<=S.length} 9 (λi=>Ge k c N S ((S.take i.val).flatMap (pkS N c.A)) i.val) (λi=>S.length-i.val) ⟨0,Y5 _⟩ ?_ ?_
 focus
  exact x5 (c:=c) (N:=N) (S:=S) (L:=(S.take 0).flatMap (pkS N c.A)) (i:=0) 10 (by decide) (Z3 3) rfl rfl (.iU rfl) rfl rfl rfl rfl rfl rfl (.inr ⟨rfl,by decide⟩)
 intro⟨i,hi⟩;have hi:i<=S.length:=hi;have hw:IntKind.i64.wrap ((i:Int)+1)=((i+1:Nat):Int):=by rw[ai (by omega) (by omega)];omega
 have lLi:=lL i
 conv=>whnf
 refine ae.dec (λh=>?_) (λh=>?_)
 focus
  have G:i<S.length:=q0s.1 h;have e3:(S.take (i+1)).flatMap (pkS N c.A)=(S.take i).flatMap (pkS N c.A)++pkS N c.A S[i]:=by rw[Y8 G,List.flatMap_append];simp
  conv=>whnf
  refine Idx.mk i rfl G ?_
  conv=>whnf
  refine aw (gv G (q0p _)) ?_
  conv=>whnf
  refine aR.mk {j:Nat//j<=N.length} 9 (λj=>Gf k c N S ((S.take i).flatMap (pkS N c.A)++pkS (N.take j.val) c.A S[i]) S[i] i j.val) (λj=>N.length-j.val) ⟨0,Y5 _⟩ ?_ ?_
  focus
   exact ry (c:=c) (N:=N) (S:=S) (L:=(S.take i).flatMap (pkS N c.A)++pkS (N.take 0) c.A S[i]) (s:=S[i]) (i:=i) (j:=0) 8 (by decide) (Z3 3) rfl rfl (.rw (by decide) rfl (by rw[Z6];rfl)) rfl rfl rfl rfl rfl rfl rfl rfl rfl rfl (.inl ⟨_,rfl,by rw[dH];exact congrArg ruL (q1d _).symm⟩)
  intro⟨j,hj⟩;have hj:j<=N.length:=hj;have Q:IntKind.i64.wrap ((j:Int)+1)=((j+1:Nat):Int):=by rw[ai (by omega) (by omega)];omega
  obtain⟨L,J⟩:∃L,L=(S.take i).flatMap (pkS N c.A)++pkS (N.take j) c.A S[i]:=⟨_,rfl⟩
  have bL:L.length<=1001000:=by
   have h1:=lP (N.take j) S[i];rw[q0d]at h1;rw[J,Z6];omega
  rw[<-J]
  conv=>whnf
  refine ae.dec (λh=>?_) (λh=>?_)
  focus
   have K:j<N.length:=q0s.1 h;obtain⟨r,hr⟩:=gN N[j] (q0g K);have er:rul c.A N[j]=r:=by unfold rul;rw[hr];rfl
   have sn:=xY (R:=c.A) (s:=S[i]) K;rw[er]at sn;have H:N.length-(j+1)<N.length-j:=by omega
   have y1:dR r.src S[i]=true->L++ [r]=(S.take i).flatMap (pkS N c.A)++pkS (N.take (j+1)) c.A S[i]:=λq=>by rw[sn,if_pos (bE.1 q),J,q0o]
   have y0:dR r.src S[i]=false->L=(S.take i).flatMap (pkS N c.A)++pkS (N.take (j+1)) c.A S[i]:=λq=>by
    have:r.src≠S[i]:=λe=>by rw[bE.2 e]at q;cases q
    rw[sn,if_neg this,q1d,J]
   have hsL:bl (ruL L) 0 (L.length*5)=some (ruL L):=bC (jw L);have hbL:(L.length+1)*56<=140737488355328:=by omega
   clear sn
   conv=>whnf
   refine Idx.mk j rfl K ?_
   conv=>whnf
   refine aw (gv K (q0p _)) ?_
   conv=>whnf
   refine Ask.mk _ (aZ (m:=c) (g:=gR) (k:=N[j]) bS mkR rfl rfl rfl lC hr) ?_
   conv=>whnf
   refine ae.sb (λz=>?_) (λz=>?_)
   focus
    have q:=y1 z
    conv=>whnf
    refine Ask.mk _ (aZ (m:=c) (g:=gR) (k:=N[j]) bS mkR rfl rfl rfl lC hr) ?_
    conv=>whnf
    refine bI.grow 5 56 _ _ _ _ _ _ UN (.old rfl) rfl rfl (.rw rfl hsL) hbL ?_
    conv=>whnf
    exact⟨⟨j+1,K⟩,H,ry (c:=c) (N:=N) (S:=S) (L:=(S.take i).flatMap (pkS N c.A)++pkS (N.take (j+1)) c.A S[i]) (s:=S[i]) (i:=i) (j:=j+1) 10 (by decide) (Z3 3) rfl rfl (.rw (by decide) rfl (by rw[<-q,Z6];rfl)) rfl rfl rfl rfl rfl rfl (congrArg (AV.si .i64) Q) rfl rfl rfl (.inl ⟨_,rfl,by rw[<-q];exact xW L r⟩)⟩
   have q:=y0 z
   conv=>whnf
   exact⟨⟨j+1,K⟩,H,ry (c:=c) (N:=N) (S:=S) (L:=(S.take i).flatMap (pkS N c.A)++pkS (N.take (j+1)) c.A S[i]) (s:=S[i]) (i:=i) (j:=j+1) 8 (by decide) (Z3 3) rfl rfl (.rw (by decide) rfl (by rw[<-q])) rfl rfl rfl rfl rfl rfl (congrArg (AV.si .i64) Q) rfl rfl rfl (.inl ⟨_,rfl,by rw[<-q];exact dH L⟩)⟩
  have ej:j=N.length:=by have h:¬(j:Int)<(N.length:Int):=h;omega
  have eL:L=(S.take (i+1)).flatMap (pkS N c.A):=by rw[J,ej,q0l,e3]
  conv=>whnf
  exact⟨⟨i+1,G⟩,by show S.length-(i+1)<S.length-i;omega,x5 (c:=c) (N:=N) (S:=S) (L:=(S.take (i+1)).flatMap (pkS N c.A)) (i:=i+1) 8 (by decide) (Z3 3) rfl rfl (.rw (by decide) rfl (by rw[eL])) rfl rfl (congrArg (AV.si .i64) hw) rfl rfl rfl (.inl ⟨_,rfl,by rw[eL];exact dH _⟩)⟩
 have ei:i=S.length:=by have h:¬(i:Int)<(S.length:Int):=h;omega
 have eF:(S.take i).flatMap (pkS N c.A)=pkF c.A a:=by rw[ei,q0l,fin]
 have hLl:=lL i;obtain⟨L,J⟩:∃L,L=(S.take i).flatMap (pkS N c.A):=⟨_,rfl⟩;rw[<-J]at hLl eF;rw[<-J]
 conv=>whnf
 refine aR.mk {t:Nat×GrC//t.1<=L.length/\t.2.Ok/\t.2.A=lD c.A (L.take t.1)} 9 (λt=>grG k t.val.2 L t.val.1) (λt=>L.length-t.val.1) ⟨(0,c),Y5 _,B.o,rfl⟩ ?_ ?_
 focus
  exact It (k:=k) (c:=c) (L:=L) (i:=0) 8 (by decide) (by decide) rfl (.rw (by decide) rfl rfl) (.rw (by decide) rfl rfl) rfl rfl rfl rfl rfl (.inl ⟨_,rfl,dH L⟩)
 intro⟨(m,O),v,T,U⟩;have v:m<=L.length:=v;have hwm:IntKind.i64.wrap ((m:Int)+1)=((m+1:Nat):Int):=by rw[ai (by omega) (by omega)];omega
 conv=>whnf
 refine ae.dec (λh=>?_) (λh=>?_)
 focus
  have G:m<L.length:=q0s.1 h;have H:L.length-(m+1)<L.length-m:=by omega
  have e5:(O.del L[m].dst).A=lD c.A (L.take (m+1)):=by rw[xU,U,Gb G]
  have sub:=vp G (q0x (m*5));have go2:=T.del L[m].dst
  conv=>whnf
  refine Idx.mk m rfl G ?_
  conv=>whnf
  refine aw sub ?_
  conv=>whnf
  refine Ask.mk _ (tW (m:=O) (g:=gR) (k:=L[m].dst) bS mkR rfl rfl rfl) ?_
  conv=>whnf
  refine⟨⟨(m+1,O.del L[m].dst),G,go2,e5⟩,H,It (k:=k) (c:=O.del L[m].dst) (L:=L) (i:=m+1) 8 ?_ ?_ ?_ ?_ ?_ ?_ ?_ ?_ ?_ ?_ ?_⟩
  ·exact by decide
  ·exact by decide
  ·exact rfl
  ·exact .rw (by decide) rfl rfl
  ·exact .rw (by decide) rfl rfl
  ·exact rfl
  ·exact congrArg (AV.si .i64) hwm
  ·exact rfl
  ·exact rfl
  ·exact rfl
  ·exact .inl ⟨_,rfl,dH L⟩
 have em:m=L.length:=by have h:¬(m:Int)<(L.length:Int):=h;omega
 have e6:O.A=lD c.A (pkF c.A a):=by rw[U,em,q0l,eF]
 have e7:(AV.si .i64 (L.length:Int))= .si .i64 ((pkF c.A a).length:Int):=by rw[eF]
 have e8:∀e∈lD c.A (pkF c.A a),e∈c.A:=λe=>tZ
 conv=>whnf
 exact⟨_,O,.told (congrArg mkT e7),⟨e6,T,λe E=>B.dst e (by rw[<-B.A];exact e8 e E),λe E=>B.lab e (by rw[<-B.A];exact e8 e E)⟩,mW rfl rfl⟩
def Om (x:Gr):List Rl:=pkF x λ_=>true
def ofG (x:Gr) (k:Tx):List Rl:=pkF x λr=>decide (r.src=k)
def qB(k:Tx)(r:Rl):Bool:=decide (r.src=k)||decide (r.dst=k)
def uK (x:Gr) (k:Tx):Gr:=lD x (pkF x (qB k))
def W4(x:Gr)(cs:List AV)(v:AV):Prop:=cs=[]/\x.length<=1000/\v= .fr (Om x).length 5 (ruL (Om x))
def On(x:Gr)(cs:List AV)(v:AV):Prop:=∃k,cs=[.ss k]/\x.length<=1000/\v= .fr (ofG x k).length 5 (ruL (ofG x k))
def W5(x:Gr)(cs:List AV)(a:Gr)(v:AV):Prop:=∃k,cs=[.ss k]/\x.length<=1000/\a=uK x k/\v= .si .i64 ((pkF x (qB k)).length:Int)
theorem Rb:ak 53 (eg 2 GrB W4):=(gu BH 5 (by kernel_rfl) GrB rfl (by decide) λx cs h v ⟨b,d,e,f⟩=>by
 subst b d f;exact⟨rfl,rfl,λc a=>by have g:=a.A;subst g;exact Kz _ c a e⟩).ol
theorem Oo:ak 133 (eg 2 GrB On):=(gu BH 5 (by kernel_rfl) GrB rfl (by decide) λx cs h v ⟨b,k,d,e,f⟩=>by
 subst b d f;exact⟨rfl,rfl,λc a=>by have g:=a.A;subst g;exact Ef _ k c a e⟩).ol
theorem UW:ak 133 (iG 2 GrB λx cs a v=>a=x/\On x cs v):=xT (ay BH 5 _) (by kernel_rfl) GrB rfl (by decide) λx cs a v ⟨d,k,e,f,g⟩=>by
 subst d e g;exact⟨rfl,rfl,λc b=>by have h:=b.A;subst h;exact Ef _ k c b f⟩
theorem Ot:ak 69 (cX 2 GrB W5):=gu UU 5 (by kernel_rfl) GrB rfl (by decide) λx cs h v ⟨k,b,d,e,f⟩=>by
 subst b e f;exact⟨rfl,rfl,λc a=>by have g:=a.A;subst g;exact Gg _ k c a d⟩
def Ou:Option Rl->AV
 |none=> .tup [.agg [.str [],.str [],.int .i64 0,.int .i64 0,.int .i64 0],.sb false]
 |some r=> .tup [gR r,.sb true]
def W6(x:Gr)(cs:List AV)(v:AV):Prop:=∃k,cs=[.ss k]/\v=Ou (aM x k)
theorem Ov:ak 120 (eg 2 GrB W6):=(gu az 3 (by kernel_rfl) GrB rfl (by decide) λx cs d v ⟨e,k,f,h⟩=>by
 subst e f h;refine⟨rfl,by cases aM d k<;>rfl,λc b=>?_⟩;have a:=b.A;subst a;cases a:aM c.A k with
 |none=>
  conv=>whnf
  refine Ask.mk _ (aZ (m:=c) (g:=gR) bS mkR rfl rfl rfl lC a) ?_
  conv=>whnf
  exact⟨_,c,.told rfl,b,mW rfl rfl⟩
 |some r=>
  conv=>whnf
  refine Ask.mk _ (aZ (m:=c) (g:=gR) bS mkR rfl rfl rfl lC a) ?_
  conv=>whnf
  exact⟨_,c,.told rfl,b,mW rfl rfl⟩).ol
def BI (x:Gr) (r:Rl):Gr×AV:=
 if bk r=false then(x,.si .i64 1)else if(aM x r.dst).isSome=true then(x,.si .i64 6)
 else if(aM x r.src).isSome=true∨0<(ofG x r.dst).length then(x,.si .i64 10)else(gU x r.dst r,.si .i64 0)
def SG(x:Gr)(cs:List AV)(a:Gr)(v:AV):Prop:=∃r y,cs=[gR r]/\x.length<=1000/\BI x r=y/\a=y.1/\v=y.2/\gT v=true
def Rc:DT:=[(5,[(some 1000000,[]),(none,[0,1,2,3,4,5,6,7,8,9,10,11,12])]),(8,[(some 1000000,[]),(none,[0,1,2,3,4,5,6,7,8,9,10,11,12])])]
def KGa:FuncId->EP:=bg 90 Rc (aq 89 (db UO) (aq 133 (iG 2 GrB λx cs a v=>a=x/\On x cs v) evP))
theorem UX:aV KGa:=au (ag (ag az UW) W3) (by kernel_rfl) (by kernel_rfl)
theorem KA(x:Gr)(r:Rl)(c:GrC)(n:Ky x c)(d:x.length<=1000){y:Gr×AV}(p:BI x r=y):ax KGa 5 90 [.ptr 0 0,gR r] (mkH (bM (grO c) 0)) 2 (gm GrB y.1 y.2):=by
 have B:=n.A;have G:bk r=false->y=(x,.si .i64 1):=λq=>by rw[<-p];unfold BI;rw[if_pos q]
 have H:bk r=true->∀u,aM x r.dst=some u->y=(x,.si .i64 6):=λq u f=>by rw[<-p];unfold BI;rw[q,f];rfl
 have I:bk r=true->aM x r.dst=none->∀u,aM x r.src=some u->y=(x,.si .i64 10):=λq f u s=>by rw[<-p];unfold BI;rw[q,f,s];simp
 have J:bk r=true->aM x r.dst=none->aM x r.src=none->((ofG x r.dst).length:Int)>0->y=(x,.si .i64 10):=λq f s F=>by rw[<-p];unfold BI;rw[q,f,s,if_neg (by simp),if_neg (by simp),if_pos (.inr (by omega))]
 have K:bk r=true->aM x r.dst=none->aM x r.src=none->¬((ofG x r.dst).length:Int)>0->y=(gU x r.dst r,.si .i64 0):=λq f s F=>by rw[<-p];unfold BI;rw[q,f,s,if_neg (by simp),if_neg (by simp),if_neg (λh=>h.elim (by simp) (λh=>F (by omega)))]
 obtain⟨L,M⟩:=y
 conv=>whnf
 refine⟨_,_,_,.cons .same .nil,⟨r,rfl,rfl⟩,?_⟩
 conv=>whnf
 refine ae.nsb (λi=>?_) (λi=>?_)
 focus
  have e:=G i;injection e with e1 e2;subst e1 e2
  conv=>whnf
  exact⟨_,c,.told rfl,n,mW rfl rfl⟩
 cases t:aM c.A r.dst with
 |some u=>
  have e:=H i u (by rw[<-B];exact t);injection e with e1 e2;subst e1 e2
  conv=>whnf
  refine⟨?_,trivial⟩
  conv=>whnf
  refine Ask.mk _ (aZ (m:=c) (g:=gR) (k:=r.dst) bS mkR rfl rfl rfl lC t) ?_
  conv=>whnf
  exact⟨_,c,.told rfl,n,mW rfl rfl⟩
 |none=>
  have j:aM x r.dst=none:=by rw[<-B];exact t
  cases C:aM c.A r.src with
  |some u=>
   have e:=I i j u (by rw[<-B];exact C);injection e with e1 e2;subst e1 e2
   conv=>whnf
   refine⟨?_,trivial⟩
   conv=>whnf
   refine Ask.mk _ (aZ (m:=c) (g:=gR) (k:=r.dst) bS mkR rfl rfl rfl lC t) ?_
   conv=>whnf
   refine⟨?_,trivial⟩
   conv=>whnf
   refine Ask.mk _ (aZ (m:=c) (g:=gR) (k:=r.src) bS mkR rfl rfl rfl lC C) ?_
   conv=>whnf
   exact⟨_,c,.told rfl,n,mW rfl rfl⟩
  |none=>
   have w:aM x r.src=none:=by rw[<-B];exact C
   conv=>whnf
   refine⟨?_,trivial⟩
   conv=>whnf
   refine Ask.mk _ (aZ (m:=c) (g:=gR) (k:=r.dst) bS mkR rfl rfl rfl lC t) ?_
   conv=>whnf
   refine⟨?_,trivial⟩
   conv=>whnf
   refine Ask.mk _ (aZ (m:=c) (g:=gR) (k:=r.src) bS mkR rfl rfl rfl lC C) ?_
   conv=>whnf
   refine⟨x,[.ss r.dst],_,_,_,c,rfl,by decide,.cons .same .nil,n,Ym rfl rfl,⟨rfl,r.dst,rfl,d,rfl⟩,λz a=>?_⟩;have l:=a.A
   conv=>whnf
   refine ae.dec (λz2=>?_) (λz2=>?_)
   focus
    have e:=J i j w z2;injection e with e1 e2;subst e1 e2
    conv=>whnf
    exact⟨_,z,.told rfl,a,mW rfl rfl⟩
   have e:=K i j w z2;injection e with e1 e2;subst e1 e2;have D:(z.put r.dst r).A=gU x r.dst r:=by rw[Ik,l]
   have E:Ky (gU x r.dst r) (z.put r.dst r):=⟨D,a.o.put _ _,λe b=>by
    rw[<-D]at b;rcases sR b with rfl|b
    ·rfl
    ·exact a.dst e (by rw[<-l];exact b),λe b=>by
    rw[<-D]at b;rcases sR b with rfl|b
    ·exact i
    ·exact a.lab e (by rw[<-l];exact b)⟩
   conv=>whnf
   refine Ask.mk _ (xS (m:=z) (g:=gR) (v:=r) (k:=r.dst) bS mkR rfl rfl rfl rfl) ?_
   conv=>whnf
   exact⟨_,z.put r.dst r,.told rfl,E,mW rfl rfl⟩
theorem Rd:ak 90 (cX 2 GrB SG):=gu UX 5 (by kernel_rfl) GrB rfl (by decide) λx cs i v ⟨r,y,a,b,d,e,f,g⟩=>by
 subst a e f;exact⟨rfl,g,λc h=>KA x r c h b d⟩
def qC(x:Gr)(s d:Tx):Gr×AV:=match aM x d with
 |none=>(x,.tup [.agg [.str [],.str [],.int .i64 0,.int .i64 0,.int .i64 0],.si .i64 5])
 |some r=>if r.src=s then(dA x d,.tup [gR r,.si .i64 0])else(x,.tup [.agg [.str [],.str [],.int .i64 0,.int .i64 0,.int .i64 0],.si .i64 5])
def W7(x:Gr)(cs:List AV)(a:Gr)(v:AV):Prop:=∃s d y,cs=[.ss s,.ss d]/\qC x s d=y/\a=y.1/\v=y.2
theorem KC(x:Gr)(s d:Tx):gT (qC x s d).2=true:=by unfold qC;repeat' (first|rfl|split)
theorem Ow:ak 109 (cX 2 GrB W7):=gu az 3 (by kernel_rfl) GrB rfl (by decide) λx cs p v ⟨s,d,y,h,a,j,l⟩=>by
 subst h j l;refine⟨rfl,by rw[<-a];exact KC _ _ _,λc b=>?_⟩;have f:=b.A;unfold qC at a;cases h:aM c.A d with
 |none=>
  rw[<-f,h]at a;subst a
  conv=>whnf
  refine Ask.mk _ (aZ (m:=c) (g:=gR) (k:=d) bS mkR rfl rfl rfl lC h) ?_
  conv=>whnf
  exact⟨_,c,.told rfl,⟨rfl,b.o,by rw[f];exact b.dst,by rw[f];exact b.lab⟩,mW rfl rfl⟩
 |some r=>
  rw[<-f,h]at a;have a:(if r.src=s then(dA c.A d,AV.tup [gR r,.si .i64 0])else(c.A,AV.tup [.agg [.str [],.str [],.int .i64 0,.int .i64 0,.int .i64 0],.si .i64 5]))=y:=a
  conv=>whnf
  refine Ask.mk _ (aZ (m:=c) (g:=gR) (k:=d) bS mkR rfl rfl rfl lC h) ?_
  conv=>whnf
  refine ae.nsb (λz=>?_) (λz=>?_)
  focus
   rw[if_neg (λe=>by rw[bE.2 e]at z;cases z)]at a;subst a
   conv=>whnf
   exact⟨_,c,.told rfl,⟨rfl,b.o,by rw[f];exact b.dst,by rw[f];exact b.lab⟩,mW rfl rfl⟩
  rw[if_pos (bE.1 z)]at a;subst a;have n:(c.del d).A=dA c.A d:=xU _ _
  conv=>whnf
  refine Ask.mk _ (tW (m:=c) (g:=gR) (k:=d) bS mkR rfl rfl rfl) ?_
  conv=>whnf
  exact⟨_,c.del d,.told rfl,⟨n,b.o.del d,λe i=>b.dst e (by rw[<-f];exact sV i),λe i=>b.lab e (by rw[<-f];exact sV i)⟩,mW rfl rfl⟩
theorem Rf:ak 52 (uI 2 GrB λcs y=>cs=[]/\y=[]):=N4 (ay az 3 _) (by kernel_rfl) GrB rfl (by decide) λcs y ⟨f,g⟩=>by
 subst f g;refine⟨rfl,?_⟩
 conv=>whnf
 refine⟨(MpC.no:GrC),⟨rfl,MpC.D9,λ_ h=>(by cases h),λ_ h=>(by cases h)⟩,Cov.ofR (λb=>1-b) (Y5 _) (λb j=>absurd j (q0n b)) (λx a=>?_) (λx a=>?_) (λx a y d e=>?_)⟩
 ·simp only[Z4,Z5,or_false]at a;subst a;exact .ptr (by decide) rfl
 ·simp only[bM,grO,GrB,Z4,Z5,or_false]at a;rcases a with rfl|rfl
  ·refine⟨by decide,.inl ⟨_,rfl,.cells (Z3 _) id λi k c=>?_⟩⟩
   match i,c with
   |0,c=>injection c with c;subst c;exact⟨_,rfl,.map (by decide) rfl⟩
   |i+1,c=>simp at c
  ·exact⟨by decide,.inl ⟨_,rfl,.Oa⟩⟩
 ·simp only[bM,grO,GrB,Z4,Z5,or_false]at a d;rcases a with rfl|rfl<;>rcases d with rfl|rfl<;>simp at e⊢
theorem Eg{H:AH}:∀{k m n:Nat},m<=k->iE H k n=true->iE H m n=true
 |_,0,_,_,_=>rfl
 |0,m+1,_,a,_=>by omega
 |k+1,m+1,n,a,h=>by
  unfold iE at h⊢;split at h
  ·exact Eg (by omega) h
  ·cases h
structure SE where
 p:Nat×Nat
 S:Sr
 L:Smp
 z:Int
def gE(e:SE):AV:= .agg [aK e.p,.si .i64 e.z]
def Yn(e:SE):HP:=cz e.p e.S e.L
def aN(A:List (Tx×SE)):List HP:=A.map λe=>Yn e.2
structure SpC where
 m:MpC Tx SE
 x:Ix
 px:Nat×Nat
 g:Gr
 pg:Nat×Nat
def spO(c:SpC):List AO:=[.cells [.map 1,aK c.px,aK c.pg] true,c.m.O kT gE,.sep (IxB.Q c.x c.px),.sep (GrB.Q c.g c.pg),.sep (aG (aN c.m.A))]
structure cU where
 S:Sr
 L:Smp
 z:Int
 lab:List Lab
structure SpV where
 K:Tx->Option cU
 R:Tx->Option Rl
 n:Nat
def KF(e:SE):Sr×Smp×Int:=(e.S,e.L,e.z)
def Gh(e:cU):Sr×Smp×Int:=(e.S,e.L,e.z)
structure bF(X:SpV)(c:SpC):Prop where
 o:c.m.Ok
 xk:(c.x.A.map Prod.fst).Nodup
 gk:(c.g.map Prod.fst).Nodup
 n9:X.n<=1000
 ml:c.m.A.length<=X.n
 xl:c.x.A.length<=X.n
 xw:c.x.w<=8*X.n
 gl:c.g.length<=X.n
 K:∀k,(aM c.m.A k).map KF=(X.K k).map Gh
 I:∀k,aM c.x.A k=(X.K k).map cU.lab
 R:∀k,aM c.g k=X.R k
 dst:∀e∈c.g,e.2.dst=e.1
 ser:∀k e,X.K k=some e->fR e.S e.L
 key:∀k e,X.K k=some e->iI k=true
 rul:∀k r,X.R k=some r->bk r=true
theorem uL{j:Nat}(e:SE):ltV j (gE e)=true:=rfl
def SpB:Obj SpV SpC where
 ok:=bF
 O:=spO
 k:=5
 len _:=rfl
 own c o h:=by
  simp only[spO,Z4,Z5,or_false]at h;rcases h with rfl|rfl|rfl|rfl|rfl
  ·exact⟨rfl,rfl⟩
  ·exact⟨rfl,bp eo uL⟩
  ·exact⟨rfl,rfl⟩
  ·exact⟨rfl,rfl⟩
  ·exact⟨rfl,rfl⟩
 pos c:=⟨_,_,_,rfl⟩
theorem bP{H:AH}{c:SpC}(a:H.get 0=some (.cells [.map 1,aK c.px,aK c.pg] true))(b:H.get 1=some (c.m.O kT gE))(d:H.get 2=some (.sep (IxB.Q c.x c.px)))(e:H.get 3=some (.sep (GrB.Q c.g c.pg)))(f:H.get 4=some (.sep (aG (aN c.m.A)))):yA H 5 (spO c) 0:=
 ⟨⟨_,a,.refl rfl⟩,⟨_,b,.refl (bp eo uL)⟩,⟨_,d,.refl rfl⟩,⟨_,e,.refl rfl⟩,⟨_,f,.refl rfl⟩,trivial⟩
theorem ua{H:AH}{c:SpC}(a:H.get 0=some (.cells [.map 1,aK c.px,aK c.pg] true))(b:H.get 1=some (c.m.O kT gE))(d:H.get 2=some (.sep (IxB.Q c.x c.px)))(e:H.get 3=some (.sep (GrB.Q c.g c.pg)))(f:H.get 4=some (.sep (aG (aN c.m.A)))):∀i o,(spO c)[i]?=some o->H.get i=some o
 |0,o,h=>by injection h with h;subst h;exact a
 |1,o,h=>by injection h with h;subst h;exact b
 |2,o,h=>by injection h with h;subst h;exact d
 |3,o,h=>by injection h with h;subst h;exact e
 |4,o,h=>by injection h with h;subst h;exact f
 |i+5,o,h=>by simp[spO]at h
theorem ot:dW Tryz.prog 92=some (9,.string,105):=by kernel_rfl
theorem qi:cZ Tryz.prog 105=some (.agg #[.pointer none,.int .i64 0]):=by kernel_rfl
section
variable {X:SpV} {c:SpC}
theorem bF.has(h:bF X c)(k:Tx):(aM c.x.A k).isSome=(X.K k).isSome:=by rw[h.I];simp
def Gi(m:MpC Tx SE)(k:Tx)(a b:List (Tx×SE)):Prop:=∀E,m.put k E=⟨a++(k,E)::b,m.bs,m.cl⟩
theorem Rg{m:MpC Tx SE}{k:Tx}{E:SE}(h:aM m.A k=some E):∃a b,m.A=a++(k,E)::b/\Gi m k a b:=by
 unfold aM at h;rw[Z7]at h;obtain⟨⟨i,u⟩,d,rfl⟩:=h;have e:=(gB d).2;rw[q3i]at e;obtain⟨f,g⟩:=Y6.1 e;refine⟨m.A.take i,m.A.drop (i+1),?_,λE=>?_⟩
 ·rw[<-g,<-q0k f,q1i]
 ·unfold MpC.put;rw[d];show(⟨m.A.set i (k,E),m.bs,m.cl⟩:MpC Tx SE)=_;rw[List.set_eq_take_append_cons_drop,if_pos f]
theorem bF.at1(h:bF X c){k:Tx}{e:cU}(i:X.K k=some e):∃p b d,aM c.m.A k=some ⟨p,e.S,e.L,e.z⟩/\c.m.A=b++(k,⟨p,e.S,e.L,e.z⟩)::d/\Gi c.m k b d/\aN c.m.A=aN b++cz p e.S e.L::aN d:=by
 have a:=h.K k;rw[i]at a;cases f:aM c.m.A k with
 |none=>rw[f]at a;cases a
 |some u=>
  rw[f]at a;obtain⟨p,S,L,z⟩:=u;injection a with a;simp only[KF,Gh,q3a]at a;obtain⟨rfl,rfl,rfl⟩:=a;obtain⟨b,d,g,j⟩:=Rg f;refine⟨p,b,d,rfl,g,j,?_⟩;rw[g];unfold aN;rw[q0r];rfl
def fu(X:SpV)(k:Tx)(e:cU):SpV:={X with K:=λx=>if x=k then some e else X.K x}
theorem bF.x6(h:bF X c){k:Tx}{e:cU}(g:X.K k=some e){p:Nat×Nat}{d f:List (Tx×SE)}(r:aM c.m.A k=some ⟨p,e.S,e.L,e.z⟩)(i:c.m.A=d++(k,⟨p,e.S,e.L,e.z⟩)::f)(j:Gi c.m k d f){S':Sr}{a:Smp}(ho:fR S' a):
 bF (fu X k {e with S:=S',L:=a}) {c with m:=c.m.put k ⟨p,S',a,e.z⟩}/\(c.m.put k ⟨p,S',a,e.z⟩).O kT gE=c.m.O kT gE/\aN (c.m.put k ⟨p,S',a,e.z⟩).A=aN d++cz p S' a::aN f:=by
 have l:(c.m.put k ⟨p,S',a,e.z⟩).A=d++(k,⟨p,S',a,e.z⟩)::f:=congrArg MpC.A (j _);refine⟨⟨h.o.put k _,h.xk,h.gk,h.n9,?_,h.xl,h.xw,h.gl,λx=>?_,λx=>?_,h.R,h.dst,λx y b=>?_,λx y b=>?_,h.rul⟩,?_,?_⟩
 ·rw[l];have:=h.ml;rw[i]at this;simpa[fu]using this
 ·rw[xQ h.o];by_cases q:x=k
  ·subst q;simp[fu,KF,Gh]
  ·simp[fu,q,h.K x]
 ·by_cases q:x=k
  ·subst q;simp[fu,h.I x,g]
  ·simp[fu,q,h.I x]
 ·by_cases q:x=k
  ·subst q;simp only[fu,if_true,q1x]at b;subst b;exact ho
  ·simp only[fu,if_neg q]at b;exact h.ser x y b
 ·by_cases q:x=k
  ·subst q;exact h.key x e g
  ·simp only[fu,if_neg q]at b;exact h.key x y b
 ·have n:c.m.put k ⟨p,S',a,e.z⟩=⟨d++(k,⟨p,S',a,e.z⟩)::f,c.m.bs,c.m.cl⟩:=j _;unfold MpC.O;rw[n];show AO.mp (jv kT gE (d++_::f)) _ _=_;rw[i];unfold jv;simp only[q0r,q1p];rfl
 ·rw[l];unfold aN;rw[q0r];rfl
theorem bF.no1(h:bF X c){k:Tx}(b:X.K k=none):aM c.m.A k=none:=by
 have a:=h.K k;rw[b]at a;cases d:aM c.m.A k with
 |none=>rfl
 |some u=>rw[d]at a;cases a
end
def dI(X:SpV)(k:Tx):Int:=if(X.K k).isSome=true then(if(X.R k).isSome=true then 10 else 0)else 5
def Rh(X:SpV)(cs:List AV)(a:SpV)(v:AV):Prop:=∃k,cs=[.ss k]/\a=X/\v= .si .i64 (dI X k)
def KWr:FuncId->EP:=aq 84 (eg 4 IxB Kv) (aq 120 (eg 2 GrB W6) evP)
theorem UY:aV KWr:=ag (ag az Ov) sT
theorem KJ(X:SpV)(k:Tx)(c:SpC)(a:bF X c):ax KWr 5 61 [.ptr 0 0,.ss k] (mkH (bM (spO c) 0)) 5 (gm SpB X (.si .i64 (dI X k))):=by
 have b:=a.has k;have f:=a.R k;cases d:X.K k with
 |none=>
  rw[d]at b;have e:dI X k=5:=by unfold dI;rw[d];rfl
  rw[e]
  conv=>whnf
  refine⟨2,c.px,c.x,[.ss k],.sb false,rfl,by decide,by decide,.cons .same .nil,rfl,rfl,⟨k,rfl,congrArg AV.sb b.symm⟩,?_⟩
  conv=>whnf
  refine ae.nsb (λz=>?_) (λz=>?_)
  focus
   conv=>whnf
   exact⟨_,c,.told rfl,a,bP rfl rfl rfl rfl rfl⟩
  cases z
 |some u=>
  rw[d]at b;cases h:X.R k with
  |none=>
   rw[h]at f;have e:dI X k=0:=by unfold dI;rw[d,h];rfl
   rw[e]
   conv=>whnf
   refine⟨2,c.px,c.x,[.ss k],.sb true,rfl,by decide,by decide,.cons .same .nil,rfl,rfl,⟨k,rfl,congrArg AV.sb b.symm⟩,?_⟩
   conv=>whnf
   refine ae.nsb (λz=>?_) (λz=>?_)
   focus
    cases z
   conv=>whnf
   refine⟨3,c.pg,c.g,[.ss k],Ou none,rfl,by decide,by decide,.cons .same .nil,rfl,rfl,⟨k,rfl,by rw[f]⟩,?_⟩
   conv=>whnf
   refine ae.sb (λz=>?_) (λz=>?_)
   focus
    cases z
   conv=>whnf
   exact⟨_,c,.told rfl,a,bP rfl rfl rfl rfl rfl⟩
  |some r=>
   rw[h]at f;have e:dI X k=10:=by unfold dI;rw[d,h];rfl
   rw[e]
   conv=>whnf
   refine⟨2,c.px,c.x,[.ss k],.sb true,rfl,by decide,by decide,.cons .same .nil,rfl,rfl,⟨k,rfl,congrArg AV.sb b.symm⟩,?_⟩
   conv=>whnf
   refine ae.nsb (λz=>?_) (λz=>?_)
   focus
    cases z
   conv=>whnf
   refine⟨3,c.pg,c.g,[.ss k],Ou (some r),rfl,by decide,by decide,.cons .same .nil,rfl,rfl,⟨k,rfl,by rw[f]⟩,?_⟩
   conv=>whnf
   refine ae.sb (λz=>?_) (λz=>?_)
   focus
    conv=>whnf
    exact⟨_,c,.told rfl,a,bP rfl rfl rfl rfl rfl⟩
   cases z
theorem BJ:ak 61 (iG 5 SpB Rh):=xT (ay UY 5 _) (by kernel_rfl) SpB rfl (by decide) λX cs f v ⟨k,a,b,d⟩=>by
 subst a b d;exact⟨rfl,rfl,λc e=>KJ _ k c e⟩
def uW (H:AH) (n b:Nat) (A C:List HP) (Q:HP):AH:=(H.set (some (.sep (aG (A++C)))) aa b).set (some (.sep Q)) aa n
section
variable {H:AH} {n b:Nat} {A C:List HP} {Q:HP}
theorem Ox{x:Nat}{o:AO}(hn:n<800000)(d:b<n)(h:H.get x=some o)(a:x≠b)(c:x≠n):(uW H n b A C Q).get x=some o:=PM.gne (by omega) c (PM.gne (by omega) a h)
theorem Oy(hn:n<800000)(a:b<n):(uW H n b A C Q).get b=some (.sep (aG (A++C))):=PM.gne (by omega) (by omega) (PM.geq (by omega))
theorem rz(hn:n<800000):(uW H n b A C Q).get n=some (.sep Q):=PM.geq (by omega)
theorem me{x:Nat}(d:n<x)(f:b<n)(h:H.get x=none):(uW H n b A C Q).get x=none:=by
 cases e:(uW H n b A C Q).get x with
 |none=>rfl
 |some o=>
  rcases PM.al aa _ n x o e with⟨c,_⟩|⟨_,a⟩
  ·omega
  rcases PM.al aa _ b x o a with⟨c,_⟩|⟨_,a⟩
  ·omega
  rw[h]at a;cases a
theorem fc{k:Nat}:∀{m:Nat},iE H m n=true->k<m->H.get (n+k)=none:=λ{m} h a=>by
 cases e:H.get (n+k)with
 |none=>rfl
 |some o=>exact(nO h (q0q n k) (by omega) e).elim
theorem kP(h:iE H 5 n=true)(hn:n<700000)(a:b<n):mb (uW H n b A C Q) (n+1):=
 ⟨by omega,me (by omega) a (fc (k:=1) h (by decide)),me (by omega) a (fc (k:=2) h (by decide)),me (by omega) a (fc (k:=3) h (by decide)),me (by omega) a (fc (k:=4) h (by decide))⟩
end
def W8(run:List AV->AH->Nat->PK->Prop)(args:List AV)(H:AH)(n:Nat)(κ:PK):Prop:=∃(b:Nat) (A C:List HP) (Q:HP) (a:AV->HP->Nat->Prop),b<n/\n<700000/\H.get n=none/\H.get b=some (.sep (aG (A++Q::C)))/\run args (uW H n b A C Q) (n+1) (λv e d=>∃c,e=(uW H n b A C Q).set (some (.sep c)) aa n/\a v c d)/\∀v c d,a v c d->κ v (H.set (some (.sep (aG (A++c::C)))) aa b) d
theorem ak.s1{f:FuncId}{run:List AV->AH->Nat->PK->Prop}(h:ak f run):ak f (W8 run):=λargs H n R ⟨b,A,C,Q,l,m,S,t,y,z,B⟩ D E F G K I c J=>by
 refine h.w.st args H n (λu v i=>∃a j,l u a i/\j=(uW H n b A C Q).set (some (.sep a)) aa n/\v=(j.set none aa n).set (some (.sep (aG (A++a::C)))) aa b) ⟨b,A,C,Q,m,by omega,t,y,_,z,λu j i ⟨a,p,q⟩=>?_⟩ D E F G K I c λL u v i w g r M N ⟨a,j,p,q,O⟩=>?_
 ·subst p;exact⟨a,PM.gne (by omega) (by omega) (Oy (by omega) m),PM.geq (by omega),a,_,q,rfl,rfl⟩
 ·subst q O;refine J L u _ _ w g r (M.less λx o P=>?_) N (B u a i p);rcases PM.al aa _ b x o P with⟨k,d⟩|⟨k,d⟩
  ·subst k;injection d with d;subst d;exact PM.geq (by omega)
  ·have s:x≠n:=λe=>by subst e;rw[t]at d;cases d
   exact PM.gne (by omega) k (PM.gne (by omega) s (PM.gne (by omega) s (Ox (by omega) m d k s)))
def W9(run:List AV->AH->Nat->PK->Prop)(args:List AV)(H:AH)(n:Nat)(κ:PK):Prop:=∃(b:Nat) (A C:List HP) (Q:HP) (a:AV->AO->Nat->Nat->Prop),b<n/\n<700000/\H.get n=none/\H.get b=some (.sep (aG (A++Q::C)))/\run args (uW H n b A C Q) (n+1) (λv d c=>∃o m,n<m/\m<900000/\d=(uW H n b A C Q).set (some o) aa m/\a v o m c)/\∀v o m c,a v o m c->κ v (H.set (some o) aa m) c
theorem ak.s2{f:FuncId}{run:List AV->AH->Nat->PK->Prop}(d:ak f run):ak f (W9 run):=λargs H n V ⟨b,A,C,Q,j,k,W,t,v,E,F⟩ G I J L K M c N=>by
 refine d.w.st args H n (λu y h=>∃o m i,n<m/\m<900000/\j u o m h/\i=(uW H n b A C Q).set (some o) aa m/\y=(i.set none aa n).set (some (.sep (aG (A++Q::C)))) aa b) ⟨b,A,C,Q,k,by omega,t,v,_,E,λu i h ⟨o,m,z,B,l,p⟩=>?_⟩ G I J L K M c λO u y h w g r P R ⟨o,m,i,z,B,l,p,S⟩=>?_
 ·subst l;exact⟨Q,PM.gne (by omega) (by omega) (Oy (by omega) k),PM.gne (by omega) (by omega) (rz (by omega)),o,m,_,z,B,p,rfl,rfl⟩
 ·subst p S;refine N O u _ _ w g r (P.less λx T U=>?_) R (F u o m h l);rcases PM.al aa _ m x T U with⟨s,a⟩|⟨s,a⟩
  ·subst s;injection a with a;subst a;exact PM.gne (by omega) (by omega) (PM.gne (by omega) (by omega) (PM.geq (by omega)))
  ·have D:x≠n:=λe=>by subst e;rw[t]at a;cases a
   by_cases q:x=b
   ·subst q;rw[v]at a;injection a with a;subst a;exact PM.geq (by omega)
   ·exact PM.gne (by omega) q (PM.gne (by omega) D (PM.gne (by omega) s (Ox (by omega) k a q D)))
def mX(B:Sr->Smp->List AV->AV->Prop)(args:List AV)(H:AH)(n:Nat)(κ:PK):Prop:=match args with
 |x::a=>∃(b:Nat) (A C:List HP) (p:Nat×Nat) (S:Sr) (L:Smp) (v:AV),x=aK p/\b<n/\n<700000/\iE H 5 n=true/\H.get b=some (.sep (aG (A++cz p S L::C)))/\B S L a v/\κ v H (n+4)
 |_=>False
theorem BK(B:Sr->Smp->List AV->AV->Prop):gY (mX B):=λargs H n l a=>by
 unfold mX at*;split at a
 ·obtain⟨b,A,C,p,S,L,v,c,d,e,f,g,i,j⟩:=a;exact⟨v,H,n+4,j,λ_ _ h=>h,q0q _ _,λk h=>⟨b,A,C,p,S,L,v,c,d,e,f,g,i,h⟩⟩
 ·exact a.elim
theorem ak.ql{f:FuncId}{B:Sr->Smp->List AV->AV->Prop}(h:ak f (ky B)):ak f (mX B):=λargs H n e a=>by
 unfold mX at a;split at a
 ·obtain⟨b,A,C,p,S,L,v,g,c,i,d,j,l,m⟩:=a;exact h.sl _ H n e ⟨b,A,C,cz p S L,v,n+4,c,by omega,fc (k:=0) d (by decide),j,by omega,⟨n,p,S,L,v,g,by omega,rz (H:=H) (b:=b) (A:=A) (C:=C) (by omega),kP d i c,l,rfl,rfl,rfl⟩,m⟩
 ·exact a.elim
def x7(B:Smp->List AV->Smp->Prop)(args:List AV)(H:AH)(n:Nat)(κ:PK):Prop:=match args with
 |x::a=>∃(b:Nat) (A C:List HP) (p:Nat×Nat) (S:Sr) (L O:Smp),x=aK p/\b<n/\n<700000/\iE H 5 n=true/\H.get b=some (.sep (aG (A++cz p S L::C)))/\B L a O/\κ (.rw (n+4) 0 O.length 2 0) (H.set (some (.cells (smp O) true)) aa (n+4)) (n+5)
 |_=>False
theorem UZ(B:Smp->List AV->Smp->Prop):gY (x7 B):=λargs H n r a=>by
 unfold x7 at*;split at a
 ·obtain⟨b,A,C,p,S,L,O,f,g,i,d,j,l,m⟩:=a;exact⟨_,_,_,m,λx o c=>PM.gne (by omega) (λe=>by subst e;rw[fc (k:=4) d (by decide)]at c;cases c) c,q0q _ _,λq h=>⟨b,A,C,p,S,L,O,f,g,i,d,j,l,h⟩⟩
 ·exact a.elim
theorem ak.qm{f:FuncId}{B:Smp->List AV->Smp->Prop}(h:ak f (xE B)):ak f (x7 B):=λargs H n i a=>by
 unfold x7 at a;split at a
 ·obtain⟨b,A,C,p,S,L,O,j,c,d,e,l,q,r⟩:=a;refine h.s2 _ H n i ⟨b,A,C,cz p S L,λv o m g=>v= .rw (n+4) 0 O.length 2 0/\o= .cells (smp O) true/\m=n+4/\g=n+5,c,d,fc (k:=0) e (by decide),l,⟨n,p,S,L,O,j,by omega,rz (by omega),kP e d c,q,?_⟩,λv o m g ⟨s,t,u,w⟩=>by subst s t u w;exact r⟩;exact⟨_,n+4,by omega,by omega,rfl,rfl,rfl,rfl,rfl⟩
 ·exact a.elim
def Iu(args:List AV)(H:AH)(n:Nat)(κ:PK):Prop:=match args with
 | [x,y,z]=>∃(b:Nat) (A C:List HP) (p:Nat×Nat) (S:Sr) (L:Smp) (t v q:Int) (a:Sr) (c:Smp) (e:Int),x=aK p/\b<n/\n<700000/\iE H 5 n=true/\H.get b=some (.sep (aG (A++cz p S L::C)))/\nH y t v/\mk z= .si .i64 q/\aQ v/\L.length<=40000/\bJ S L t v q=((a,c),e)/\(fR a c->κ (.si .i64 e) (H.set (some (.sep (aG (A++cz p a c::C)))) aa b) (n+5))
 |_=>False
theorem Oz:ak 72 Iu:=λargs H n m a=>by
 unfold Iu at a;split at a
 ·obtain⟨b,A,C,p,S,L,t,v,q,c,d,e,r,h,i,j,s,w,x,y,z,f,g⟩:=a;refine Us.s1 _ H n m ⟨b,A,C,cz p S L,λu B l=>fR c d/\u= .si .i64 e/\B=cz p c d/\l=n+5,h,i,fc (k:=0) j (by decide),s,⟨n,p,S,L,t,v,q,c,d,e,r,by omega,rz (by omega),kP j i h,w,x,y,z,f,λho=>⟨_,rfl,ho,rfl,rfl,rfl⟩⟩,λv o l ⟨D,E,F,G⟩=>by subst E F G;exact g D⟩
 ·exact a.elim
def zK(args:List AV)(H:AH)(n:Nat)(κ:PK):Prop:=match args with
 | [x,y,z]=>∃(b:Nat) (A C:List HP) (p:Nat×Nat) (S:Sr) (L:Smp) (a c:Int) (d:Smp) (m:Nat),x=aK p/\b<n/\n<700000/\iE H 5 n=true/\H.get b=some (.sep (aG (A++cz p S L::C)))/\mk y= .si .i64 a/\mk z= .si .i64 c/\L.length<=40000/\aE L a c=d/\L.length-d.length=m/\(fR S d->κ (.si .i64 (m:Int)) (H.set (some (.sep (aG (A++cz p S d::C)))) aa b) (n+5))
 |_=>False
theorem BL:ak 100 zK:=λargs H n r d=>by
 unfold zK at d;split at d
 ·obtain⟨b,A,C,p,S,L,a,c,e,m,s,i,j,l,t,w,x,y,f,g,h⟩:=d;refine Ut.s1 _ H n r ⟨b,A,C,cz p S L,λu z q=>fR S e/\u= .si .i64 (m:Int)/\z=cz p S e/\q=n+5,i,j,fc (k:=0) l (by decide),t,⟨n,p,S,L,a,c,e,m,s,by omega,rz (by omega),kP l j i,w,x,y,f,g,λho=>⟨_,rfl,ho,rfl,rfl,rfl⟩⟩,λv o q ⟨B,D,E,F⟩=>by subst D E F;exact h B⟩
 ·exact d.elim
def OA(args:List AV)(H:AH)(n:Nat)(κ:PK):Prop:=match args with
 | [x,y,z]=>∃(b:Nat) (A C:List HP) (p:Nat×Nat) (S:Sr) (L:Smp) (r q:Int) (a:Sr) (c:Smp) (e:Int),x=aK p/\b<n/\n<700000/\iE H 5 n=true/\H.get b=some (.sep (aG (A++cz p S L::C)))/\mk y= .si .i64 r/\mk z= .si .i64 q/\L.length<=40000/\cV S L r q=((a,c),e)/\(fR a c->κ (.si .i64 e) (H.set (some (.sep (aG (A++cz p a c::C)))) aa b) (n+5))
 |_=>False
theorem U0:ak 108 OA:=λargs H n m a=>by
 unfold OA at a;split at a
 ·obtain⟨b,A,C,p,S,L,r,q,c,d,e,s,h,i,j,t,w,x,y,f,g⟩:=a;refine Uu.s1 _ H n m ⟨b,A,C,cz p S L,λu z l=>fR c d/\u= .si .i64 e/\z=cz p c d/\l=n+5,h,i,fc (k:=0) j (by decide),t,⟨n,p,S,L,r,q,c,d,e,s,by omega,rz (by omega),kP j i h,w,x,y,f,λho=>⟨_,rfl,ho,rfl,rfl,rfl⟩⟩,λv o l ⟨B,D,E,F⟩=>by subst D E F;exact g B⟩
 ·exact a.elim
def OB(args:List AV)(H:AH)(n:Nat)(κ:PK):Prop:=match args with
 | [x]=>∃(b:Nat) (A C:List HP) (p:Nat×Nat) (S:Sr) (L:Smp),x=aK p/\b<n/\n<700000/\iE H 9 n=true/\H.get b=some (.sep (aG (A++cz p S L::C)))/\∀a,κ (aK a) (H.set (some (.sep (cz a S L))) aa (n+1)) (n+8)
 |_=>False
theorem OC:ak 58 OB:=λargs H n h e=>by
 unfold OB at e;split at e
 ·obtain⟨b,A,C,p,S,L,i,a,f,c,j,l⟩:=e;refine QW.s2 _ H n h ⟨b,A,C,cz p S L,λv o m g=>∃d,v=aK d/\o= .sep (cz d S L)/\m=n+1/\g=n+8,a,f,fc (k:=0) c (by decide),j,⟨n,p,S,L,i,by omega,rz (by omega),kP (Eg (by decide) c) f a,⟨by omega,me (by omega) a (fc (k:=5) c (by decide)),me (by omega) a (fc (k:=6) c (by decide)),me (by omega) a (fc (k:=7) c (by decide)),me (by omega) a (fc (k:=8) c (by decide))⟩,λd=>⟨_,n+1,by omega,by omega,rfl,d,rfl,rfl,rfl,rfl⟩⟩,λv o m g ⟨d,q,r,s,t⟩=>by subst q r s t;exact l d⟩
 ·exact e.elim
theorem SH:ak 24 (mX NV):=Sy.ql
theorem Xa:ak 85 (mX Um):=WA.ql
theorem Xb:ak 86 (mX Un):=WB.ql
theorem Xc:ak 18 (mX Uo):=WE.ql
theorem SJ:ak 21 (x7 DV):=Sz.qm
theorem qb(x:Int):aQ (IntKind.i64.wrap x):=by
 rw[IntKind.wrap_i64];unfold aQ;omega
theorem OD(a b:Int):aQ (Ff a b):=by
 unfold Ff kh;have:=qb (a+b);split
 ·split<;>exact⟨by decide,by decide⟩
 ·exact this
theorem Ri{L:Smp}(h:∀x∈L,aQ x.2):aQ (nG L).n/\aQ (nG L).sum/\aQ (nG L).least/\aQ (nG L).great/\aQ (nG L).first/\aQ (nG L).last:=by
 have main:∀(L:Smp) (s:SS),(∀x∈L,aQ x.2)->(aQ s.n/\aQ s.sum/\aQ s.least/\aQ s.great/\aQ s.first/\aQ s.last)->(aQ (L.foldl (λs x=>yx s x.2) s).n/\aQ (L.foldl (λs x=>yx s x.2) s).sum/\aQ (L.foldl (λs x=>yx s x.2) s).least/\aQ (L.foldl (λs x=>yx s x.2) s).great/\aQ (L.foldl (λs x=>yx s x.2) s).first/\aQ (L.foldl (λs x=>yx s x.2) s).last):=λL=>by
  induction L with
  |nil=>exact λs _ h=>h
  |cons x L b=>
   intro s a ⟨e,f,g,i,j,k⟩;have l:=a x q0b;refine b (yx s x.2) (λy c=>a y (Y4 _ c)) ?_;have w:=qb (s.n+1);have d:=OD s.sum x.2;unfold aQ at*;unfold yx;split<;>exact⟨w,d,by dsimp only;omega,by dsimp only;omega,by dsimp only;omega,by dsimp only;omega⟩
 have z:aQ 0:=⟨by decide,by decide⟩;exact main L ss0 h ⟨z,z,z,z,z,z⟩
theorem KK{k:Int}{L:Smp}(h:∀x∈L,aQ x.2):aQ (tE k L):=by
 obtain⟨a,b,c,d,e,f⟩:=Ri h;have z:aQ 0:=⟨by decide,by decide⟩;have w:=qb ((nG L).great-(nG L).least);unfold tE PJ GP
 repeat' split
 all_goals first|exact z|assumption|exact⟨by decide,by decide⟩
def bB(r:Rl)(t:Int):Int:=eu t r.size r.align
def eB(r:Rl)(t:Int):Int:=qh (bB r t) r.size r.align
theorem uM{t s a:Int}:0<=qh t s a/\qh t s a<=2199023255552:=by
 have:=jE (t:=t) (s:=s) (a:=a);unfold qh;split
 ·rename_i h;simp only[sc,decide_eq_true_eq]at h;split<;>omega
 ·omega
def inB(r:Rl)(t:Int)(L:Smp):Smp:=bd (bB r t) (eB r t-1) L
def uN(r:Rl)(t:Int)(S:Sr):Prop:=S.mx<0∨bB r S.mx<eB r t
instance (r:Rl)(t:Int)(S:Sr):Decidable (uN r t S):=by unfold uN;infer_instance
def du(r:Rl)(t:Int)(s d:cU):Sr×Smp:=if uN r t s.S then(d.S,d.L)else if wO r.kind (inB r t s.L)=true then(bJ d.S d.L (bB r t) (tE r.kind (inB r t s.L)) 3).1 else(d.S,aE d.L (bB r t) (bB r t))
def bU(X:SpV)(r:Rl)(t:Int):SpV:=match X.K r.src,X.K r.dst with
 |some s,some d=>fu X r.dst {d with S:=(du r t s d).1,L:=(du r t s d).2}
 |_,_=>X
theorem BM{X:SpV}{k:Tx}{e:cU}(h:X.K k=some e):fu X k e=X:=by
 unfold fu
 have:(λx=>if x=k then some e else X.K x)=X.K:=funext λx=>by
  by_cases q:x=k
  ·subst q;rw[if_pos rfl,h]
  ·rw[if_neg q]
 rw[this]
def U1:DT:=[(1000002,[]),(1,[(some 1000000,[14,15,14,10,14,12,14,13,15,10,15,12,15,13,16,10,16,12,16,13]),(none,[0,1,2,3,4,5,6,7,8,9,11,10,12,13,14,15,16,17]),(none,[0,1,2,3,4,5,6,7,8,9,11,10,12,13,15,14,16,17]),(none,[0,1,2,3,4,5,6,7,8,9,11,10,12,14,13,15,16,17]),(none,[0,1,2,3,4,5,6,7,8,9,11,10,12,14,15,13,16,17]),(none,[0,1,2,3,4,5,6,7,8,9,11,10,12,14,15,16,13,17]),(none,[0,1,2,3,4,5,6,7,8,9,11,10,12,15,13,14,16,17]),(none,[0,1,2,3,4,5,6,7,8,9,11,10,12,15,14,13,16,17]),(none,[0,1,2,3,4,5,6,7,8,9,11,10,12,15,14,16,13,17]),(none,[0,1,2,3,4,5,6,7,8,9,11,10,14,12,13,15,16,17]),(none,[0,1,2,3,4,5,6,7,8,9,11,10,14,12,15,13,16,17]),(none,[0,1,2,3,4,5,6,7,8,9,11,10,14,12,15,16,13,17]),(none,[0,1,2,3,4,5,6,7,8,9,11,10,14,15,12,13,16,17]),(none,[0,1,2,3,4,5,6,7,8,9,11,10,14,15,12,16,13,17]),(none,[0,1,2,3,4,5,6,7,8,9,11,10,14,15,16,12,13,17]),(none,[0,1,2,3,4,5,6,7,8,9,11,10,15,12,13,14,16,17]),(none,[0,1,2,3,4,5,6,7,8,9,11,10,15,12,14,13,16,17]),(none,[0,1,2,3,4,5,6,7,8,9,11,10,15,12,14,16,13,17]),(none,[0,1,2,3,4,5,6,7,8,9,11,10,15,14,12,13,16,17]),(none,[0,1,2,3,4,5,6,7,8,9,11,10,15,14,12,16,13,17]),(none,[0,1,2,3,4,5,6,7,8,9,11,10,15,14,16,12,13,17]),(none,[0,1,2,3,4,5,6,7,8,9,11,12,14,10,13,15,16,17]),(none,[0,1,2,3,4,5,6,7,8,9,11,12,14,10,15,13,16,17]),(none,[0,1,2,3,4,5,6,7,8,9,11,12,14,10,15,16,13,17]),(none,[0,1,2,3,4,5,6,7,8,9,11,12,14,15,10,13,16,17]),(none,[0,1,2,3,4,5,6,7,8,9,11,12,14,15,10,16,13,17]),(none,[0,1,2,3,4,5,6,7,8,9,11,12,14,15,16,10,13,17]),(none,[0,1,2,3,4,5,6,7,8,9,11,12,15,10,13,14,16,17]),(none,[0,1,2,3,4,5,6,7,8,9,11,12,15,10,14,13,16,17]),(none,[0,1,2,3,4,5,6,7,8,9,11,12,15,10,14,16,13,17]),(none,[0,1,2,3,4,5,6,7,8,9,11,12,15,14,10,13,16,17]),(none,[0,1,2,3,4,5,6,7,8,9,11,12,15,14,10,16,13,17]),(none,[0,1,2,3,4,5,6,7,8,9,11,12,15,14,16,10,13,17]),(none,[0,1,2,3,4,5,6,7,8,9,11,14,10,12,13,15,16,17]),(none,[0,1,2,3,4,5,6,7,8,9,11,14,10,12,15,13,16,17]),(none,[0,1,2,3,4,5,6,7,8,9,11,14,10,12,15,16,13,17]),(none,[0,1,2,3,4,5,6,7,8,9,11,14,10,15,12,13,16,17]),(none,[0,1,2,3,4,5,6,7,8,9,11,14,10,15,12,16,13,17]),(none,[0,1,2,3,4,5,6,7,8,9,11,14,10,15,16,12,13,17]),(none,[0,1,2,3,4,5,6,7,8,9,11,14,12,15,10,13,16,17]),(none,[0,1,2,3,4,5,6,7,8,9,11,14,12,15,10,16,13,17]),(none,[0,1,2,3,4,5,6,7,8,9,11,14,12,15,16,10,13,17]),(none,[0,1,2,3,4,5,6,7,8,9,11,14,15,10,12,13,16,17]),(none,[0,1,2,3,4,5,6,7,8,9,11,14,15,10,12,16,13,17]),(none,[0,1,2,3,4,5,6,7,8,9,11,14,15,10,16,12,13,17]),(none,[0,1,2,3,4,5,6,7,8,9,11,14,15,12,16,10,13,17]),(none,[0,1,2,3,4,5,6,7,8,9,11,14,15,16,10,12,13,17]),(none,[0,1,2,3,4,5,6,7,8,9,11,15,10,12,13,14,16,17]),(none,[0,1,2,3,4,5,6,7,8,9,11,15,10,12,14,13,16,17]),(none,[0,1,2,3,4,5,6,7,8,9,11,15,10,12,14,16,13,17]),(none,[0,1,2,3,4,5,6,7,8,9,11,15,10,14,12,13,16,17]),(none,[0,1,2,3,4,5,6,7,8,9,11,15,10,14,12,16,13,17]),(none,[0,1,2,3,4,5,6,7,8,9,11,15,10,14,16,12,13,17]),(none,[0,1,2,3,4,5,6,7,8,9,11,15,12,14,10,13,16,17]),(none,[0,1,2,3,4,5,6,7,8,9,11,15,12,14,10,16,13,17]),(none,[0,1,2,3,4,5,6,7,8,9,11,15,12,14,16,10,13,17]),(none,[0,1,2,3,4,5,6,7,8,9,11,15,14,10,12,13,16,17]),(none,[0,1,2,3,4,5,6,7,8,9,11,15,14,10,12,16,13,17]),(none,[0,1,2,3,4,5,6,7,8,9,11,15,14,10,16,12,13,17]),(none,[0,1,2,3,4,5,6,7,8,9,11,15,14,12,16,10,13,17]),(none,[0,1,2,3,4,5,6,7,8,9,11,15,14,16,10,12,13,17])]),
 (4,[(some 0,[6]),(some 0,[38]),(none,[39]),(some 0,[40]),(some 0,[41]),(some 0,[9,42]),(some 0,[6,42]),(some 0,[44,42]),(none,[45,42]),(some 1,[4,42]),(some 2,[47,42]),(some 3,[4,42]),(some 4,[49,42]),(none,[46,48,50,42]),(some 0,[43,51,42])]),
 (5,[(some 0,[4]),(some 0,[55]),(some 0,[6]),(some 0,[57]),(some 0,[8]),(some 0,[9]),(some 0,[60]),(none,[58,59,61]),(none,[56,62]),(some 0,[63]),(some 0,[54]),(some 0,[54]),(some 0,[64])])]
def KBk:FuncId->EP:=bg 75 U1 (cn 24 (mX NV) (cn 21 (x7 DV) (cn 54 (tD eu) (cn 55 (tD qh) (cn 56 (wN 9223372036854775807 sd) (aq 72 Iu (aq 100 zK evP)))))))
theorem U2:aV KBk:=au (aL (aL (aL (aL (aL (ag (ag az BL) Oz) Mo Mi) Mk wK) u9 wK) SJ (UZ _)) SH (BK _)) (by kernel_rfl) (by kernel_rfl)
def bkJ (c:SpC) (r:Rl) (t:Int) (p1:Nat×Nat) (z1:Int) (p2:Nat×Nat) (z2:Int):AE×AH:=(mkE [(0,.ptr 0 (0)),(2,.si .i64 (t)),(4,.ptr 5 (0)),(6,.ptr 6 (0)),(7,.ptr 7 (0))],mkH [(0,.cells [.map 1,aK c.px,aK c.pg] true),(1,c.m.O kT gE),(2,.sep (IxB.Q c.x c.px)),(3,.sep (GrB.Q c.g c.pg)),(4,.sep (aG (aN c.m.A))),(5,.cells (ruC r) true),(6,.cells ([aK p1,.si .i64 z1]) true),(7,.cells ([aK p2,.si .i64 z2]) true)])
theorem Iv{c:SpC}{r:Rl}{t:Int}{p1:Nat×Nat}{z1:Int}{p2:Nat×Nat}{z2:Int}{p n:Nat}{σ:AE}{H:AH}(a:Nat)(d:Nat)(G:a≠0/\a≠1/\a≠2/\a≠3/\a≠4/\a≠5/\a≠d/\d≠0/\d≠1/\d≠2/\d≠3/\d≠4/\d≠5)(I:p<=6)(j:aj (pa 0) σ= .ptr 0 (0))(o:mk (aj (pa 2) σ)= .si .i64 (t))(q:aj (pa 4) σ= .ptr 5 (0))(s:aj (pa 6) σ= .ptr a (0))(u:aj (pa 7) σ= .ptr d (0))(v:H.get 0=some (.cells [.map 1,aK c.px,aK c.pg] true))(w:H.get 1=some (c.m.O kT gE))(z:H.get 2=some (.sep (IxB.Q c.x c.px)))(B:H.get 3=some (.sep (GrB.Q c.g c.pg)))(C:H.get 4=some (.sep (aG (aN c.m.A))))(D:H.get 5=some (.cells (ruC r) true))(E:∃l,H.get a=some (.cells l true)/\mO H 8 (λb=>if b=6 then a else if b=7 then d else b) l ([aK p1,.si .i64 z1]))(F:∃l,H.get d=some (.cells l true)/\mO H 8 (λb=>if b=6 then a else if b=7 then d else b) l ([aK p2,.si .i64 z2])):Cov p σ H n ((bkJ c r t p1 z1 p2 z2).1,(bkJ c r t p1 z1 p2 z2).2,8):=
 Cov.ofB (λb=>if b=6 then a else if b=7 then d else b) (by omega) (λb e=>by repeat' rw[if_neg (by omega)]) ⟨.ptr (by decide) j,.int o,.ptr (by decide) q,.ptr (by decide) s,.ptr (by decide) u,trivial⟩ ⟨.inl ⟨_,v,ao.cm (k:=2) rfl (by decide) (λb e=>by rw[if_neg (by omega),if_neg (by omega)])⟩,.inl ⟨_,w,ao.cm (k:=0) (bp eo uL) (by decide) (λb e=>absurd e (q0n b))⟩,.inl ⟨_,z,ao.sep _⟩,.inl ⟨_,B,ao.sep _⟩,.inl ⟨_,C,ao.sep _⟩,.inl ⟨_,D,ao.cm (k:=0) rfl (by decide) (λb e=>absurd e (q0n b))⟩,.inl (E.elim λl h=>⟨_,h.1,ao.st h.2⟩),.inl (F.elim λl h=>⟨_,h.1,ao.st h.2⟩),trivial⟩ rfl (λx f y i=>by simp only[Z4,Z5,or_false]at f i;rcases f with rfl|rfl|rfl|rfl|rfl|rfl|rfl|rfl<;>rcases i with rfl|rfl|rfl|rfl|rfl|rfl|rfl|rfl<;>simp<;>omega)
theorem OE(X:SpV)(r:Rl)(t:Int)(c:SpC)(i:bF X c){s d:cU}(j:X.K r.src=some s)(hd:X.K r.dst=some d)(ls:s.L.length<=30000)(T:d.L.length<=30000):ax KBk 6 75 [.ptr 0 0,gR r,.si .i64 t] (mkH (bM (spO c) 0)) 5 (gm SpB (bU X r t) (.tup [])):=by
 obtain⟨h,p,u,O,U,V,v⟩:=i.at1 j;obtain⟨b,F,G,w,H,I,J⟩:=i.at1 hd
 conv=>whnf
 refine yU.mk Unit 8 (λ_=>bkJ c r t h s.z b d.z) ?_ ?_
 focus
  conv=>whnf
  refine⟨?_,?_,?_,?_,?_,?_,?_,?_,?_,?_,?_,?_,?_,?_,?_,?_,?_,?_,?_,?_,?_,?_,?_,?_,?_,?_,?_,?_,?_,?_,?_,?_,?_,?_,?_,?_,?_,?_,?_,?_,?_,?_,?_,?_,?_,?_,?_,?_,?_,?_,?_,?_,?_,?_,?_,?_,?_,?_,?_,?_,trivial⟩
  all_goals
   conv=>whnf
   refine Ask.mk _ (aZ (m:=c.m) (g:=gE) (k:=r.src) bS ot rfl rfl rfl qi O) ?_
   conv=>whnf
   refine Ask.mk _ (aZ (m:=c.m) (g:=gE) (k:=r.dst) bS ot rfl rfl rfl qi w) ?_
   conv=>whnf
   first
    |exact⟨(),Iv (c:=c) (r:=r) (t:=t) (p1:=h) (z1:=s.z) (p2:=b) (z2:=d.z) 6 7 (by decide) (by decide) rfl rfl rfl rfl rfl rfl rfl rfl rfl rfl rfl ⟨_,rfl,.cons (.aK rfl) (.cons (.int rfl) .nil)⟩ ⟨_,rfl,.cons (.aK rfl) (.cons (.int rfl) .nil)⟩⟩
    |exact⟨(),Iv (c:=c) (r:=r) (t:=t) (p1:=h) (z1:=s.z) (p2:=b) (z2:=d.z) 7 6 (by decide) (by decide) rfl rfl rfl rfl rfl rfl rfl rfl rfl rfl rfl ⟨_,rfl,.cons (.aK rfl) (.cons (.int rfl) .nil)⟩ ⟨_,rfl,.cons (.aK rfl) (.cons (.int rfl) .nil)⟩⟩
 intro _;have W:=jE (t:=t) (s:=r.size) (a:=r.align);have Z:=uM (t:=bB r t) (s:=r.size) (a:=r.align);have P:IntKind.i64.wrap (eB r t-1)=eB r t-1:=ai (by unfold eB;omega) (by unfold eB;omega)
 have M:uN r t s.S->bU X r t=X:=λq=>by
  unfold bU;rw[j,hd];show fu X r.dst {d with S:=(du r t s d).1,L:=(du r t s d).2}=X;unfold du;rw[if_pos q];exact BM hd
 conv=>whnf
 refine⟨4,aN p,aN u,h,s.S,s.L,_,rfl,by decide,by decide,rfl,congrArg (λx=>some (AO.sep (aG x))) v,⟨rfl,rfl⟩,?_⟩
 conv=>whnf
 refine ae.dec (λl=>?_) (λl=>?_)
 focus
  have e:=M (.inl l);rw[e]
  conv=>whnf
  exact⟨_,c,.told rfl,i,bP rfl rfl rfl rfl rfl⟩
 conv=>whnf
 refine⟨4,aN p,aN u,h,s.S,s.L,_,rfl,by decide,by decide,rfl,congrArg (λx=>some (AO.sep (aG x))) v,⟨rfl,rfl⟩,?_⟩
 conv=>whnf
 refine ae.dec (λz2=>?_) (λz2=>?_)
 focus
  have e:=M (.inr z2);rw[e]
  conv=>whnf
  exact⟨_,c,.told rfl,i,bP rfl rfl rfl rfl rfl⟩
 have n:¬uN r t s.S:=λq=>q.elim l z2
 conv=>whnf
 refine⟨4,aN p,aN u,h,s.S,s.L,inB r t s.L,rfl,by decide,by decide,rfl,congrArg (λx=>some (AO.sep (aG x))) v,⟨_,_,bB r t,eB r t-1,rfl,rfl,congrArg (AV.si .i64) P,rfl⟩,?_⟩
 conv=>whnf
 refine⟨inB r t s.L,mI.WG rfl rfl,Y7 (q0y _ _) (by omega),?_⟩
 conv=>whnf
 refine ae.nsb (λy=>?_) (λy=>?_)
 focus
  obtain⟨f,o⟩:∃f,f=aE d.L (bB r t) (bB r t):=⟨_,rfl⟩
  conv=>whnf
  refine⟨4,aN F,aN G,b,d.S,d.L,bB r t,bB r t,f,_,rfl,by decide,by decide,rfl,congrArg (λx=>some (AO.sep (aG x))) J,rfl,rfl,by omega,o.symm,rfl,λho=>?_⟩;obtain⟨A,B,C⟩:=i.x6 hd w H I ho
  have e:bU X r t=fu X r.dst {d with S:=d.S,L:=f}:=by
   unfold bU;rw[j,hd];show fu X r.dst {d with S:=(du r t s d).1,L:=(du r t s d).2}=_;unfold du;rw[if_neg n,if_neg (by rw[y];simp),o]
  rw[e]
  conv=>whnf
  exact⟨_,{c with m:=c.m.put r.dst ⟨b,d.S,f,d.z⟩},.told rfl,A,bP rfl (congrArg some B.symm) rfl rfl (congrArg (λx=>some (AO.sep (aG x))) C.symm)⟩
 obtain⟨Y,N⟩:∃Y,Y=bJ d.S d.L (bB r t) (tE r.kind (inB r t s.L)) 3:=⟨_,rfl⟩;obtain⟨⟨D,f⟩,e⟩:=Y;have E:aQ (tE r.kind (inB r t s.L)):=KK λx Q=>((i.ser _ _ j).cW x (q1c.1 Q).1).2
 conv=>whnf
 refine⟨4,aN F,aN G,b,d.S,d.L,bB r t,tE r.kind (inB r t s.L),3,D,f,e,rfl,by decide,by decide,rfl,congrArg (λx=>some (AO.sep (aG x))) J,⟨_,_,rfl,rfl,rfl⟩,rfl,E,by omega,N.symm,λho=>?_⟩;obtain⟨A,B,C⟩:=i.x6 hd w H I ho
 have R:bU X r t=fu X r.dst {d with S:=D,L:=f}:=by
  unfold bU;rw[j,hd];show fu X r.dst {d with S:=(du r t s d).1,L:=(du r t s d).2}=_;unfold du;rw[if_neg n,if_pos y,<-N]
 rw[R]
 conv=>whnf
 exact⟨_,{c with m:=c.m.put r.dst ⟨b,D,f,d.z⟩},.told rfl,A,bP rfl (congrArg some B.symm) rfl rfl (congrArg (λx=>some (AO.sep (aG x))) C.symm)⟩
def U3(X:SpV)(cs:List AV)(a:SpV)(v:AV):Prop:=∃r t s d,cs=[gR r,.si .i64 t]/\X.K r.src=some s/\X.K r.dst=some d/\s.L.length<=30000/\d.L.length<=30000/\a=bU X r t/\v= .tup []
theorem OF:ak 75 (iG 5 SpB U3):=xT (ay U2 6 _) (by kernel_rfl) SpB rfl (by decide) λX cs k v ⟨r,t,s,d,a,b,e,f,g,h,i⟩=>by
 subst a h i;exact⟨rfl,rfl,λc j=>OE X r t c j b e f g⟩
end Go.Proofs.YtflehenfikoniaaGreat
namespace Go.Proofs.YtflehenfikoniaaGreat
open Go Go.RowKit
section
variable {V:Type}
theorem pB{A:List (Tx×V)}(h:(A.map Prod.fst).Nodup){k:Tx}{v:V}:(k,v)∈A<->aM A k=some v:=⟨fb h,cY⟩
open Classical in
def x8 (f:Tx->Option V):List (Tx×V):=if h:∃A:List (Tx×V),(A.map Prod.fst).Nodup/\∀k,aM A k=f k then h.choose else []
theorem mY{f:Tx->Option V}{A:List (Tx×V)}(a:(A.map Prod.fst).Nodup)(b:∀k,aM A k=f k):((x8 f).map Prod.fst).Nodup/\∀k,aM (x8 f) k=f k:=by
 have h:∃A:List (Tx×V),(A.map Prod.fst).Nodup/\∀k,aM A k=f k:=⟨A,a,b⟩;unfold x8;rw[dif_pos h];exact h.choose_spec
end
theorem x9{A B:List Tx}(h:∀x,x∈A<->x∈B):aI A=aI B:=tS (bj A).1 (bj B).1 λx=>by rw[(bj A).2,(bj B).2];exact h x
theorem BN{A B:Gr}(b:(A.map Prod.fst).Nodup)(c:(B.map Prod.fst).Nodup)(h:∀k,aM A k=aM B k)(so:Rl->Bool):pkF A so=pkF B so:=by
 have a:∀e:Tx×Rl,e∈A<->e∈B:=λe=>by
  obtain⟨k,v⟩:=e;rw[pB b,pB c,h]
 have f:aI ((A.filter λe=>so e.2).map Prod.fst)=aI ((B.filter λe=>so e.2).map Prod.fst):=x9 λx=>by
  simp only[q0t,q1c,a]
 have g:aI ((A.filter λe=>so e.2).map λe=>e.2.src)=aI ((B.filter λe=>so e.2).map λe=>e.2.src):=x9 λx=>by
  simp only[q0t,q1c,a]
 have i:∀d,rul A d=rul B d:=λd=>by unfold rul;rw[h]
 unfold pkF;rw[f,g];congr 1;funext s;unfold pkS;have:rul A=rul B:=funext i;rw[this]
theorem Eh{a:Type}(p:a->Bool):∀N:List a,(N.filter p).length+(N.filter λd=>!p d).length=N.length
 | []=>rfl
 |d::N=>by
  have b:=Eh p N;cases h:p d<;>simp[h]<;>omega
theorem zL{i c:Type} [DecidableEq c](f:i->c):∀(S:List c) (N:List i),S.Nodup->(S.flatMap λs=>N.filter λd=>decide (f d=s)).length<=N.length
 | [],N,_=>by simp
 |s::S,N,h=>by
  have j:=q2s.1 h;have k:=zL f S (N.filter λd=>!decide (f d=s)) j.2
  have e:(S.flatMap λa=>N.filter λd=>decide (f d=a))=S.flatMap λa=>(N.filter λd=>!decide (f d=s)).filter λd=>decide (f d=a):=by
   have:∀b:List c,(∀x∈b,x≠s)->(b.flatMap λa=>N.filter λd=>decide (f d=a))=b.flatMap λa=>(N.filter λd=>!decide (f d=s)).filter λd=>decide (f d=a):=λb=>by
    induction b with
    |nil=>intro _;rfl
    |cons x b k=>
     intro g;rw[q4k,q4k,k λy m=>g y (Y4 _ m)];congr 1;rw[List.filter_filter];refine q4j λd _=>?_
     have:=g x q0b;by_cases q:f d=x
     ·have n:¬f d=s:=λe=>this (q.symm.trans e)
      simp[q,this]
     ·simp[q]
   exact this S λx g e=>j.1 (e▸g)
  rw[q4k,Z6,e];have l:=Eh (λd=>decide (f d=s)) N;omega
theorem ub{L:List Tx}(h:UpT L):L.Nodup:=h.imp λ{a b} q e=>by
 subst e;rw[ic]at q;cases q
theorem Iw(R:Gr)(so:Rl->Bool):(pkF R so).length<=R.length:=by
 have b:=zL (λd=>(rul R d).src) (aI ((R.filter λe=>so e.2).map λe=>e.2.src)) (aI ((R.filter λe=>so e.2).map Prod.fst)) (ub (bj _).1);have a:=dt ((R.filter λe=>so e.2).map Prod.fst);rw[Y9]at a;have c:=nR (p:=λe:Tx×Rl=>so e.2) R
 have e:(pkF R so).length=((aI ((R.filter λe=>so e.2).map λe=>e.2.src)).flatMap λs=>(aI ((R.filter λe=>so e.2).map Prod.fst)).filter λd=>decide ((rul R d).src=s)).length:=by
  unfold pkF pkS;rw[List.length_flatMap,List.length_flatMap];congr 1;refine q2y λs _=>?_
  rw[Y9]
 omega
section
variable {V:Type}
def mpA(A:List (Tx×V)):MpC Tx V:=⟨A,List.range A.length,A.length⟩
theorem BO{A:List (Tx×V)}(h:(A.map Prod.fst).Nodup):(mpA A).Ok:=⟨List.length_range,List.nodup_range,λx a=>q2m.1 a,h⟩
theorem qc{A:List (Tx×V)}(h:(A.map Prod.fst).Nodup)(k x:Tx):aM (dA A k) x=if x=k then none else aM A x:=by
 have:=D8 (BO h) k x;rw[xU]at this;exact this
theorem qd{A:List (Tx×V)}(h:(A.map Prod.fst).Nodup)(k:Tx)(v:V)(x:Tx):aM (gU A k v) x=if x=k then some v else aM A x:=by
 have:=xQ (BO h) k v x;rw[Ik]at this;exact this
theorem sW{A:List (Tx×V)}(h:(A.map Prod.fst).Nodup)(k:Tx):((dA A k).map Prod.fst).Nodup:=by
 have:=((BO h).del k).key;rw[xU]at this;exact this
theorem vt{A:List (Tx×V)}(h:(A.map Prod.fst).Nodup)(k:Tx)(v:V):((gU A k v).map Prod.fst).Nodup:=by
 have:=((BO h).put k v).key;rw[Ik]at this;exact this
theorem pC(A:List (Tx×V))(k:Tx):(dA A k).length<=A.length:=by
 unfold dA;split
 ·exact Z3 _
 ·exact List.length_eraseIdx_le _ _
theorem ya(A:List (Tx×V))(k:Tx)(v:V):(gU A k v).length<=A.length+1:=by
 unfold gU;split
 ·simp
 ·rw[List.length_set];omega
end
theorem zM:∀{L:List Rl} {A:Gr},(A.map Prod.fst).Nodup->((lD A L).map Prod.fst).Nodup/\(lD A L).length<=A.length/\∀d,aM (lD A L) d=if d∈L.map Rl.dst then none else aM A d
 | [],A,h=>⟨h,Z3 _,λd=>by simp[lD]⟩
 |r::L,A,h=>by
  obtain⟨a,b,c⟩:=zM (L:=L) (sW h r.dst);refine⟨a,Y7 b (pC _ _),λd=>?_⟩;show aM (lD (dA A r.dst) L) d=_;rw[c,qc h];simp only[q1p,Z4];by_cases q:d∈L.map Rl.dst
  ·simp[q]
  ·by_cases e:d=r.dst<;>simp[q,e]
theorem KM{x:Gr}(h:(x.map Prod.fst).Nodup)(hd:∀e∈x,e.2.dst=e.1)(k:Tx):((uK x k).map Prod.fst).Nodup/\(uK x k).length<=x.length/\∀d,aM (uK x k) d=match aM x d with
 |some r=>if qB k r=true then none else some r
 |none=>none:=by
 obtain⟨c,f,g⟩:=zM (L:=pkF x (qB k)) h;refine⟨c,f,λd=>?_⟩;unfold uK;rw[g];cases e:aM x d with
 |none=>simp
 |some r=>
  have hm:=cY e;have a:r.dst=d:=hd _ hm
  have:d∈(pkF x (qB k)).map Rl.dst<->qB k r=true:=by
   rw[q0t];constructor
   ·rintro⟨i,j,l⟩;obtain⟨b,m⟩:=(vq h hd i).1 j;rw[l]at b;have:=fb h b;rw[e]at this;injection this with this;subst this;exact m
   ·intro q;exact⟨r,(vq h hd r).2 ⟨by rw[a];exact hm,q⟩,a⟩
  (try simp only[this])
end Go.Proofs.YtflehenfikoniaaGreat
namespace Go.Proofs.YtflehenfikoniaaGreat
open Go Go.RowKit
def ofX (X:SpV) (k:Tx):List Rl:=ofG (x8 X.R) k
def yB (X:SpV):List Rl:=Om (x8 X.R)
section
variable {X:SpV} {c:SpC}
theorem bF.Rj(h:bF X c):((x8 X.R).map Prod.fst).Nodup/\∀k,aM (x8 X.R) k=X.R k:=mY h.gk h.R
theorem bF.of(h:bF X c)(k:Tx):ofG c.g k=ofX X k:=BN h.gk h.Rj.1 (λd=>by rw[h.R,h.Rj.2]) _
theorem bF.all(h:bF X c):Om c.g=yB X:=BN h.gk h.Rj.1 (λd=>by rw[h.R,h.Rj.2]) _
theorem bF.Ei(h:bF X c){d:Tx}{r:Rl}(a:X.R d=some r):r.dst=d:=h.dst (d,r) (cY (by rw[h.R];exact a))
theorem bF.mq(h:bF X c){k:Tx}{r:Rl}:r∈ofX X k<->X.R r.dst=some r/\r.src=k:=by
 rw[<-h.of];show r∈pkF c.g _<->_;rw[vq h.gk h.dst,pB h.gk,h.R,decide_eq_true_eq]
theorem bF.Rk(h:bF X c){r:Rl}:r∈yB X<->X.R r.dst=some r:=by
 rw[<-h.all];show r∈pkF c.g _<->_;rw[vq h.gk h.dst,pB h.gk,h.R];simp
theorem bF.OG(h:bF X c)(k:Tx):(ofX X k).length<=1000:=by
 rw[<-h.of];have a:=Iw c.g λr=>decide (r.src=k)
 have b:=h.gl;have d:=h.n9;show(pkF c.g _).length<=1000;omega
end
section
variable {X:SpV} {r:Rl} {t:Int} {k:Tx}
theorem c9(X:SpV)(k:Tx)(e:cU)(x:Tx):(fu X k e).K x=if x=k then some e else X.K x:=rfl
theorem ie:(bU X r t).R=X.R/\(bU X r t).n=X.n:=by unfold bU;split<;>exact⟨rfl,rfl⟩
theorem lE(h:k≠r.dst):(bU X r t).K k=X.K k:=by
 unfold bU;split
 ·rw[c9,if_neg h]
 ·rfl
theorem jy:((bU X r t).K k).isSome=(X.K k).isSome:=by
 unfold bU;split
 ·rename_i s d b a;rw[c9];split
  ·rename_i q;rw[q,a];rfl
  ·rfl
 ·rfl
def Bnd(X:SpV)(b:Nat):Prop:=∀k e,X.K k=some e->e.L.length<=b
theorem mZ{b:Nat}(h:Bnd X b):Bnd (bU X r t) (b+1):=λk e a=>by
 unfold bU at a;split at a
 ·rename_i s d g f;rw[c9]at a;split at a
  ·injection a with a;subst a;have hb:=h _ _ f;show(du r t s d).2.length<=b+1;unfold du;split
   ·exact Nat.le_succ_of_le hb
   ·split
    ·exact Y7 (sL _ _ _ _ _) (by omega)
    ·exact Y7 (q0y _ _) (by omega)
  ·exact Nat.le_succ_of_le (h k e a)
 ·exact Nat.le_succ_of_le (h k e a)
end
def mxK(X:SpV)(k:Tx):Int:=match X.K k with
 |some e=>e.S.mx
 |none=> -1
def cq(k:Tx)(was t:Int)(X:SpV)(r:Rl):SpV:=bU (if 0<=was/\was<mxK X k then bU X r was else X) r t
def uX(X:SpV)(k:Tx)(e:cU)(t v p:Int):SpV:=fu X k {e with S:=(bJ e.S e.L t v p).1.1,L:=(bJ e.S e.L t v p).1.2}
def jc (X:SpV) (k:Tx) (t v p:Int):SpV×Int:=if dI X k≠0 then(X,dI X k)else match X.K k with
 |none=>(X,5)
 |some e=>if(bJ e.S e.L t v p).2≠0 then(X,(bJ e.S e.L t v p).2)else((ofX X k).foldl (cq k e.S.mx t) (uX X k e t v p),0)
def Links(X:SpV):Prop:=∀d r,X.R d=some r->(X.K r.src).isSome=true/\(X.K d).isSome=true
section
variable {X:SpV} {k:Tx} {was t:Int} {r:Rl}
theorem Ej(h:k≠r.dst){b:Nat}(a:Bnd X b):(cq k was t X r).R=X.R/\(cq k was t X r).n=X.n/\(∀x,((cq k was t X r).K x).isSome=(X.K x).isSome)/\(cq k was t X r).K k=X.K k/\Bnd (cq k was t X r) (b+2):=by
 unfold cq;split
 ·exact⟨ie.1.trans ie.1,ie.2.trans ie.2,λx=>jy.trans jy,(lE h).trans (lE h),mZ (mZ a)⟩
 ·exact⟨ie.1,ie.2,λx=>jy,lE h,λx e c=>Nat.le_succ_of_le (mZ a x e c)⟩
theorem uO{k:Tx}{was t:Int}:∀(L:List Rl) {X:SpV} {b:Nat},(∀r∈L,k≠r.dst)->Bnd X b->(L.foldl (cq k was t) X).R=X.R/\(L.foldl (cq k was t) X).n=X.n/\(∀x,((L.foldl (cq k was t) X).K x).isSome=(X.K x).isSome)/\(L.foldl (cq k was t) X).K k=X.K k/\Bnd (L.foldl (cq k was t) X) (b+2*L.length)
 | [],X,b,_,a=>⟨rfl,rfl,λ_=>rfl,rfl,a⟩
 |r::L,X,b,h,a=>by
  obtain⟨c,d,e,f,g⟩:=Ej (k:=k) (was:=was) (t:=t) (h r q0b) a;obtain⟨i,j,l,m,o⟩:=uO L (λq p=>h q (Y4 _ p)) g;refine⟨i.trans c,j.trans d,λx=>(l x).trans (e x),m.trans f,?_⟩;rw[Z9,show b+2*(L.length+1)=b+2+2*L.length by omega];exact o
end
theorem iH{r:Rl}(h:bk r=true):r.src≠r.dst:=by
 unfold bk at h;simp only[Z8,q2x,decide_eq_false_iff_not]at h;exact h.2.2.2.1
theorem OH{S S':Sr}{L a:Smp}{t v p e:Int}(h:bJ S L t v p=((S',a),e))(b:e≠0):S'=S/\a=L:=by
 unfold bJ at h
 repeat' split at h
 all_goals(injection h with h1 h2;injection h1 with c d;first|exact⟨c.symm,d.symm⟩|exact absurd h2.symm b)
def Rm:DT:=[(1000005,[]),(4,[(some 1000000,[7,8]),(none,[0,1,2,3,4,5,6,7,8,9]),(none,[0,1,2,3,4,5,6,8,7,9])]),(5,[(some 0,[4]),(some 0,[26]),(some 0,[27]),(some 0,[28]),(some 0,[5]),(some 0,[29,30]),(some 0,[31]),(some 0,[6]),(some 0,[3])])]
def OI:DT:=[(1,[(some 0,[1]),(some 0,[6]),(some 0,[7]),(some 0,[1,8]),(some 0,[2,8]),(some 0,[10,8]),(some 0,[11,8]),(some 0,[12,8]),(some 0,[3,8]),(some 0,[13,14,8]),(some 0,[15,8]),(none,[16,8]),(some 0,[9,17,8])])]
def Xd:FuncId->EP:=bg 73 [] (cn 24 (mX NV) (aq 133 (eg 2 GrB On) (aq 75 (iG 5 SpB U3) (aq 61 (iG 5 SpB Rh) (aq 72 Iu (aq 100 zK evP))))))
theorem Rn:aV Xd:=au (aL (ag (ag (ag (ag (ag az BL) Oz) BJ) OF) Oo) SH (BK _)) (by kernel_rfl) (by kernel_rfl)
def U4:FuncId->EP:=bg 32 Rm (bg 74 OI Xd)
theorem Iy:aV U4:=au (au Rn (by kernel_rfl) (by kernel_rfl)) (by kernel_rfl) (by kernel_rfl)
def adJ (c:SpC) (k:Tx) (t:Int) (v:Int) (q:Int) (was:Int):AE×AH:=(mkE [(3,.si .i64 (q)),(4,.ptr 5 (0)),(5,.ptr 6 (0)),(6,.ptr 7 (0)),(10,.ptr 8 (0))],mkH [(0,.cells [.map 1,aK c.px,aK c.pg] true),(1,c.m.O kT gE),(2,.sep (IxB.Q c.x c.px)),(3,.sep (GrB.Q c.g c.pg)),(4,.sep (aG (aN c.m.A))),(5,.cells [.ptr 0 0] true),(6,.cells [.ss k] true),(7,.cells [.si .i64 t,.si .i64 v] true),(8,.cells ([.si .i64 was]) true)])
theorem Iz{c:SpC}{k:Tx}{t:Int}{v:Int}{q:Int}{was:Int}{p n:Nat}{σ:AE}{H:AH}(a:Nat)(J:a≠0/\a≠1/\a≠2/\a≠3/\a≠4/\a≠5/\a≠6/\a≠7)(K:p<=8)(j:mk (aj (pa 3) σ)= .si .i64 (q))(o:aj (pa 4) σ= .ptr 5 (0))(s:aj (pa 5) σ= .ptr 6 (0))(u:aj (pa 6) σ= .ptr 7 (0))(e:aj (pa 10) σ= .ptr a (0))(w:H.get 0=some (.cells [.map 1,aK c.px,aK c.pg] true))(z:H.get 1=some (c.m.O kT gE))(B:H.get 2=some (.sep (IxB.Q c.x c.px)))(C:H.get 3=some (.sep (GrB.Q c.g c.pg)))(D:H.get 4=some (.sep (aG (aN c.m.A))))(E:H.get 5=some (.cells [.ptr 0 0] true))(F:H.get 6=some (.cells [.ss k] true))(G:H.get 7=some (.cells [.si .i64 t,.si .i64 v] true))(I:∃l,H.get a=some (.cells l true)/\mO H 9 (λb=>if b=8 then a else b) l ([.si .i64 was])):Cov p σ H n ((adJ c k t v q was).1,(adJ c k t v q was).2,9):=
 Cov.ofB (λb=>if b=8 then a else b) (by omega) (λb d=>by repeat' rw[if_neg (by omega)]) ⟨.int j,.ptr (by decide) o,.ptr (by decide) s,.ptr (by decide) u,.ptr (by decide) e,trivial⟩ ⟨.inl ⟨_,w,ao.cm (k:=2) rfl (by decide) (λb d=>by rw[if_neg (by omega)])⟩,.inl ⟨_,z,ao.cm (k:=0) (bp eo uL) (by decide) (λb d=>absurd d (q0n b))⟩,.inl ⟨_,B,ao.sep _⟩,.inl ⟨_,C,ao.sep _⟩,.inl ⟨_,D,ao.sep _⟩,.inl ⟨_,E,ao.cm (k:=1) rfl (by decide) (λb d=>by rw[if_neg (by omega)])⟩,.inl ⟨_,F,ao.cm (k:=0) rfl (by decide) (λb d=>absurd d (q0n b))⟩,.inl ⟨_,G,ao.cm (k:=0) rfl (by decide) (λb d=>absurd d (q0n b))⟩,.inl (I.elim λl h=>⟨_,h.1,ao.st h.2⟩),trivial⟩ rfl (λx f y i=>by simp only[Z4,Z5,or_false]at f i;rcases f with rfl|rfl|rfl|rfl|rfl|rfl|rfl|rfl|rfl<;>rcases i with rfl|rfl|rfl|rfl|rfl|rfl|rfl|rfl|rfl<;>simp<;>omega)
def adL (c:SpC) (k:Tx) (t:Int) (v:Int) (was:Int) (L:List Rl) (j:Nat):AE×AH:=(mkE [(2,AV.fn 74 [] [.ptr 8 0,.ptr 5 0,.ptr 6 0,.ptr 7 0]),(13,.fr L.length 5 (ruL L)),(14,.si .i64 ((L.length:Int))),(15,.si .i64 ((j:Int)))],mkH [(0,.cells [.map 1,aK c.px,aK c.pg] true),(1,c.m.O kT gE),(2,.sep (IxB.Q c.x c.px)),(3,.sep (GrB.Q c.g c.pg)),(4,.sep (aG (aN c.m.A))),(5,.cells [.ptr 0 0] true),(6,.cells [.ss k] true),(7,.cells [.si .i64 t,.si .i64 v] true),(8,.cells [.si .i64 was] true)])
theorem vu{c:SpC}{k:Tx}{t:Int}{v:Int}{was:Int}{L:List Rl}{j:Nat}{p n:Nat}{σ:AE}{H:AH}(f:p<=14)(h:ah H 14 (λb=>b) (aj (pa 2) σ) (AV.fn 74 [] [.ptr 8 0,.ptr 5 0,.ptr 6 0,.ptr 7 0]))(a:aj (pa 13) σ= .fr L.length 5 (ruL L))(d:mk (aj (pa 14) σ)= .si .i64 ((L.length:Int)))(e:mk (aj (pa 15) σ)= .si .i64 ((j:Int)))(i:H.get 0=some (.cells [.map 1,aK c.px,aK c.pg] true))(l:H.get 1=some (c.m.O kT gE))(o:H.get 2=some (.sep (IxB.Q c.x c.px)))(q:H.get 3=some (.sep (GrB.Q c.g c.pg)))(s:H.get 4=some (.sep (aG (aN c.m.A))))(u:H.get 5=some (.cells [.ptr 0 0] true))(w:H.get 6=some (.cells [.ss k] true))(y:H.get 7=some (.cells [.si .i64 t,.si .i64 v] true))(z:H.get 8=some (.cells [.si .i64 was] true)):Cov p σ H n ((adL c k t v was L j).1,(adL c k t v was L j).2,14):=
 Cov.ofA f ⟨h,ah.frE a,.int d,.int e,trivial⟩ ⟨.inl ⟨_,i,ao.refl rfl⟩,.inl ⟨_,l,ao.refl (bp eo uL)⟩,.inl ⟨_,o,ao.sep _⟩,.inl ⟨_,q,ao.sep _⟩,.inl ⟨_,s,ao.sep _⟩,.inl ⟨_,u,ao.refl rfl⟩,.inl ⟨_,w,ao.refl rfl⟩,.inl ⟨_,y,ao.refl rfl⟩,.inl ⟨_,z,ao.refl rfl⟩,trivial⟩ rfl
theorem KO(X:SpV)(k:Tx)(t v p:Int)(c:SpC)(hc:bF X c)(h64:aQ v)(hl:Links X)(hb:Bnd X 20000){Y:SpV×Int}(B:jc X k t v p=Y):ax U4 6 32 [.ptr 0 0,.ss k,.agg [.si .i64 t,.si .i64 v],.si .i64 p] (mkH (bM (spO c) 0)) 5 (gm SpB Y.1 (.si .i64 Y.2)):=by
 obtain⟨Y1,Y2⟩:=Y
 conv=>whnf
 refine⟨X,[.ss k],X,_,_,c,rfl,by decide,.cons .same .nil,hc,ua rfl rfl rfl rfl rfl,⟨k,rfl,rfl,rfl⟩,λn o=>?_⟩
 conv=>whnf
 refine ae.dk (λP=>?_) (λP=>?_)
 focus
  unfold jc at B;rw[if_pos P]at B;injection B with e1 e2;subst e1 e2
  conv=>whnf
  exact⟨_,n,.told rfl,o,bP rfl rfl rfl rfl rfl⟩
 have P:dI X k=0:=P;unfold jc at B;rw[if_neg (by rw[P];exact λq=>q rfl)]at B
 have hK:(X.K k).isSome=true:=by
  unfold dI at P;by_cases q:(X.K k).isSome=true
  ·exact q
  ·rw[if_neg q]at P;cases P
 obtain⟨e,he⟩:=q0i.1 hK;rw[he]at B;dsimp only at B;obtain⟨p1,A1,A2,g1,a1,u1,q1⟩:=o.at1 he;have hL:=hb k e he
 conv=>whnf
 refine yU.mk Unit 9 (λ_=>adJ n k t v p e.S.mx) ?_ ?_
 focus
  conv=>whnf
  refine⟨?_,?_,trivial⟩
  focus
   conv=>whnf
   refine Ask.mk _ (aZ (m:=n.m) (g:=gE) (k:=k) bS ot rfl rfl rfl qi g1) ?_
   conv=>whnf
   refine⟨4,aN A1,aN A2,p1,e.S,e.L,_,rfl,by decide,by decide,rfl,congrArg (λx=>some (AO.sep (aG x))) q1,⟨rfl,rfl⟩,?_⟩
   conv=>whnf
   exact⟨(),Iz (c:=n) (k:=k) (t:=t) (v:=v) (q:=p) (was:=e.S.mx) 12 (by decide) (by decide) rfl rfl rfl rfl rfl rfl rfl rfl rfl rfl rfl rfl rfl ⟨_,rfl,.cons (.int rfl) .nil⟩⟩
  focus
   conv=>whnf
   refine Ask.mk _ (aZ (m:=n.m) (g:=gE) (k:=k) bS ot rfl rfl rfl qi g1) ?_
   conv=>whnf
   refine⟨4,aN A1,aN A2,p1,e.S,e.L,_,rfl,by decide,by decide,rfl,congrArg (λx=>some (AO.sep (aG x))) q1,⟨rfl,rfl⟩,?_⟩
   conv=>whnf
   exact⟨(),Iz (c:=n) (k:=k) (t:=t) (v:=v) (q:=p) (was:=e.S.mx) 8 (by decide) (by decide) rfl rfl rfl rfl rfl rfl rfl rfl rfl rfl rfl rfl rfl ⟨_,rfl,.cons (.int rfl) .nil⟩⟩
 intro _;obtain⟨Z,hZ⟩:∃Z,Z=bJ e.S e.L t v p:=⟨_,rfl⟩;have hK1:uX X k e t v p=fu X k {e with S:=Z.1.1,L:=Z.1.2}:=by rw[hZ];rfl
 rw[hK1,<-hZ]at B;obtain⟨⟨C,D⟩,en⟩:=Z;dsimp only at B hK1
 conv=>whnf
 refine Ask.mk _ (aZ (m:=n.m) (g:=gE) (k:=k) bS ot rfl rfl rfl qi g1) ?_
 conv=>whnf
 refine⟨4,aN A1,aN A2,p1,e.S,e.L,t,v,p,C,D,en,rfl,by decide,by decide,rfl,congrArg (λx=>some (AO.sep (aG x))) q1,⟨_,_,rfl,rfl,rfl⟩,rfl,h64,by omega,hZ.symm,λho=>?_⟩;obtain⟨k1,k2,k3⟩:=o.x6 he g1 a1 u1 ho
 conv=>whnf
 refine ae.dk (λz2=>?_) (λz2=>?_)
 focus
  rw[if_pos z2]at B;injection B with e1 e2;subst e1 e2
  have hs:fu X k {e with S:=C,L:=D}=X:=by
   obtain⟨a1,a2⟩:C=e.S/\D=e.L:=OH hZ.symm z2;rw[a1,a2];exact BM he
  rw[hs]at k1
  conv=>whnf
  exact⟨_,{n with m:=n.m.put k ⟨p1,C,D,e.z⟩},.told rfl,k1,bP rfl (congrArg some k2.symm) rfl rfl (congrArg (λx=>some (AO.sep (aG x))) k3.symm)⟩
 rw[if_neg (λq=>q z2)]at B;injection B with e1 e2;subst e1 e2;obtain⟨a,J⟩:∃a,a=ofX X k:=⟨_,rfl⟩;have hR1:ofG n.g k=a:=by rw[J];exact o.of k
 rw[<-J]
 have Q:∀r∈a,k≠r.dst/\X.R r.dst=some r/\r.src=k:=λr T=>by
  rw[J]at T;obtain⟨m1,m2⟩:=o.mq.1 T;exact⟨λq=>iH (o.rul _ _ m1) (m2.trans q),m1,m2⟩
 have hlen:a.length<=1000:=by rw[J];exact o.OG k
 have hgl:n.g.length<=1000:=Y7 o.gl o.n9;obtain⟨H,F⟩:∃H,H=fu X k {e with S:=C,L:=D}:=⟨_,rfl⟩;rw[<-F]at k1;rw[<-F]
 have hB1:Bnd H 20001:=λx y U=>by
  rw[F,c9]at U;split at U
  ·injection U with U;subst U;have:=sL e.S e.L t v p;rw[<-hZ]at this;show D.length<=20001;have h4:D.length<=e.L.length+1:=this;omega
  ·exact Y7 (hb x y U) (by decide)
 have hXk:H.K k=some {e with S:=C,L:=D}:=by rw[F,c9,if_pos rfl]
 have hXs:∀x,(H.K x).isSome=(X.K x).isSome:=λx=>by
  rw[F,c9];by_cases q:x=k
  ·subst q;rw[if_pos rfl,he];rfl
  ·rw[if_neg q]
 obtain⟨I,M⟩:∃I:SpC,I={n with m:=n.m.put k ⟨p1,C,D,e.z⟩}:=⟨_,rfl⟩;have k2':n.m.O kT gE=I.m.O kT gE:=by rw[M];exact k2.symm
 have k3':aN A1++cz p1 C D::aN A2=aN I.m.A:=by rw[M];exact k3.symm
 have E:I.px=n.px/\I.pg=n.pg/\I.x=n.x/\I.g=n.g:=by rw[M];exact⟨rfl,rfl,rfl,rfl⟩
 rw[<-M]at k1
 conv=>whnf
 refine⟨3,n.pg,n.g,[.ss k],.fr a.length 5 (ruL a),rfl,by decide,by decide,.cons .same .nil,rfl,rfl,⟨k,rfl,hgl,by rw[hR1]⟩,?_⟩
 conv=>whnf
 refine aR.mk {w:Nat×SpC//w.1<=a.length/\bF ((a.take w.1).foldl (cq k e.S.mx t) H) w.2} 14 (λw=>adL w.val.2 k t v e.S.mx a w.val.1) (λw=>a.length-w.val.1) ⟨(0,I),Y5 _,k1⟩ ?_ ?_
 focus
  refine vu (c:=I) (k:=k) (t:=t) (v:=v) (was:=e.S.mx) (L:=a) (j:=0) ?_ ?_ ?_ ?_ ?_ ?_ ?_ ?_ ?_ ?_ ?_ ?_ ?_ ?_
  ·exact Z3 14
  ·exact ah.dj (k:=14) rfl rfl (Z3 14) (λ_ _=>rfl)
  ·exact rfl
  ·exact rfl
  ·exact rfl
  ·rw[E.1,E.2.1];exact rfl
  ·exact congrArg some k2'
  ·rw[E.1,E.2.2.1];exact rfl
  ·rw[E.2.1,E.2.2.2];exact rfl
  ·exact congrArg (λx=>some (AO.sep (aG x))) k3'
  ·exact rfl
  ·exact rfl
  ·exact rfl
  ·exact rfl
 intro⟨(j,W),hj,u⟩;have hj:j<=a.length:=hj;obtain⟨i,N⟩:∃i,i=(a.take j).foldl (cq k e.S.mx t) H:=⟨_,rfl⟩;have u:bF i W:=by rw[N];exact u
 have hw:IntKind.i64.wrap ((j:Int)+1)=((j+1:Nat):Int):=by rw[ai (by omega) (by omega)];omega
 obtain⟨f1,f2,f3,f4,f5⟩:=uO (k:=k) (was:=e.S.mx) (t:=t) (a.take j) (X:=H) (b:=20001) (λr T=>(Q r (q3f T)).1) hB1;rw[<-N]at f1 f2 f3 f4 f5;rw[hXk]at f4;have hB3:Bnd i 25000:=λx y U=>Y7 (f5 x y U) (by rw[q0d];omega)
 conv=>whnf
 refine ae.dec (λh=>?_) (λh=>?_)
 focus
  have h3:j<a.length:=q0s.1 h;have hlt:a.length-(j+1)<a.length-j:=by omega
  obtain⟨r,T⟩:∃r,r=a[j]:=⟨_,rfl⟩;have sub:bl (ruL a) (j*5) 5=some (ruC r):=by rw[T];exact vp h3 rfl
  obtain⟨m1,m2,m3⟩:=Q r (by rw[T];exact q0g h3)
  have f:(a.take (j+1)).foldl (cq k e.S.mx t) H=cq k e.S.mx t i r:=by
   rw[Y8 h3,q3k,<-N,<-T];rfl
  have s:i.K r.src=some {e with S:=C,L:=D}:=by rw[m3];exact f4
  have hdS:(i.K r.dst).isSome=true:=by rw[f3,hXs];exact(hl _ _ m2).2
  obtain⟨d,hd⟩:=q0i.1 hdS;have hmx:mxK i k=C.mx:=by unfold mxK;rw[f4]
  obtain⟨p3,C1,C2,g3,a3,u3,q3⟩:=u.at1 f4;have lsrc:=hB3 _ _ s;have ldst:=hB3 _ _ hd;have one:¬(0<=e.S.mx/\e.S.mx<mxK i k)->cq k e.S.mx t i r=bU i r t:=λq=>by unfold cq;rw[if_neg q]
  have two:0<=e.S.mx->e.S.mx<C.mx->cq k e.S.mx t i r=bU (bU i r e.S.mx) r t:=λq q2=>by unfold cq;rw[if_pos ⟨q,by rw[hmx];exact q2⟩]
  conv=>whnf
  refine Idx.mk j rfl h3 ?_
  conv=>whnf
  refine aw sub ?_
  conv=>whnf
  refine ae.dec (λz3=>?_) (λz3=>?_)
  focus
   conv=>whnf
   refine Ask.mk _ (aZ (m:=W.m) (g:=gE) (k:=k) bS ot rfl rfl rfl qi g3) ?_
   conv=>whnf
   refine⟨4,aN C1,aN C2,p3,C,D,_,rfl,by decide,by decide,rfl,congrArg (λx=>some (AO.sep (aG x))) q3,⟨rfl,rfl⟩,?_⟩
   conv=>whnf
   refine ae.dec (λz4=>?_) (λz4=>?_)
   focus
    have hs2:(bU i r e.S.mx).K r.src=some {e with S:=C,L:=D}:=by rw[lE (by rw[m3];exact m1)];exact s
    obtain⟨d2,hd2⟩:=q0i.1 (show((bU i r e.S.mx).K r.dst).isSome=true by rw[jy];exact hdS);have ld2:=mZ hB3 _ _ hd2;rw[two z3 z4]at f
    conv=>whnf
    refine⟨i,[gR r,.si .i64 e.S.mx],bU i r e.S.mx,.tup [],_,W,rfl,by decide,.cons .same (.cons .same .nil),u,ua rfl rfl rfl rfl rfl,⟨r,e.S.mx,_,d,rfl,s,hd,by omega,by omega,rfl,rfl⟩,λc4 hc4=>?_⟩
    conv=>whnf
    refine⟨bU i r e.S.mx,[gR r,.si .i64 t],bU (bU i r e.S.mx) r t,.tup [],_,c4,rfl,by decide,.cons .same (.cons .same .nil),hc4,ua rfl rfl rfl rfl rfl,⟨r,t,_,d2,rfl,hs2,hd2,by omega,by omega,rfl,rfl⟩,λV G=>?_⟩
    conv=>whnf
    exact⟨⟨(j+1,V),h3,by rw[f];exact G⟩,hlt,vu (c:=V) (k:=k) (t:=t) (v:=v) (was:=e.S.mx) (L:=a) (j:=j+1) (Z3 14) (ah.dj (k:=14) rfl rfl (Z3 14) (λ_ _=>rfl)) rfl rfl (congrArg (AV.si .i64) hw) rfl rfl rfl rfl rfl rfl rfl rfl rfl⟩
   rw[one (λq=>z4 (by rw[<-hmx];exact q.2))]at f
   conv=>whnf
   refine⟨i,[gR r,.si .i64 t],bU i r t,.tup [],_,W,rfl,by decide,.cons .same (.cons .same .nil),u,ua rfl rfl rfl rfl rfl,⟨r,t,_,d,rfl,s,hd,by omega,by omega,rfl,rfl⟩,λV G=>?_⟩
   conv=>whnf
   exact⟨⟨(j+1,V),h3,by rw[f];exact G⟩,hlt,vu (c:=V) (k:=k) (t:=t) (v:=v) (was:=e.S.mx) (L:=a) (j:=j+1) (Z3 14) (ah.dj (k:=14) rfl rfl (Z3 14) (λ_ _=>rfl)) rfl rfl (congrArg (AV.si .i64) hw) rfl rfl rfl rfl rfl rfl rfl rfl rfl⟩
  rw[one (λq=>z3 q.1)]at f
  conv=>whnf
  refine⟨i,[gR r,.si .i64 t],bU i r t,.tup [],_,W,rfl,by decide,.cons .same (.cons .same .nil),u,ua rfl rfl rfl rfl rfl,⟨r,t,_,d,rfl,s,hd,by omega,by omega,rfl,rfl⟩,λV G=>?_⟩
  conv=>whnf
  exact⟨⟨(j+1,V),h3,by rw[f];exact G⟩,hlt,vu (c:=V) (k:=k) (t:=t) (v:=v) (was:=e.S.mx) (L:=a) (j:=j+1) (Z3 14) (ah.dj (k:=14) rfl rfl (Z3 14) (λ_ _=>rfl)) rfl rfl (congrArg (AV.si .i64) hw) rfl rfl rfl rfl rfl rfl rfl rfl rfl⟩
 have ej:j=a.length:=by have h:¬(j:Int)<(a.length:Int):=h;omega
 have hfin:bF (a.foldl (cq k e.S.mx t) H) W:=by rw[<-q0l (l:=a),<-ej,<-N];exact u
 conv=>whnf
 exact⟨_,W,.told rfl,hfin,bP rfl rfl rfl rfl rfl⟩
def qe(X:SpV)(cs:List AV)(a:SpV)(u:AV):Prop:=∃k t v p Y,cs=[.ss k,.agg [.si .i64 t,.si .i64 v],.si .i64 p]/\aQ v/\Links X/\Bnd X 20000/\jc X k t v p=Y/\a=Y.1/\u= .si .i64 Y.2
theorem IA:∀X cs a u,qe X cs a u->cs.all gT=true/\gT u=true/\∀c,SpB.ok X c->ax U4 6 32 (.ptr 0 0::cs) (mkH (bM (SpB.O c) 0)) 5 (gm SpB a u):=λX cs a u ⟨k,t,v,p,Y,b,d,e,f,g,h,i⟩=>by
 subst b h i;exact⟨rfl,rfl,λc j=>KO X k t v p c j d e f g⟩
theorem Ro:ak 32 (iG 5 SpB qe):=xT (ay Iy 6 _) (by kernel_rfl) SpB rfl (by decide) IA
theorem IB:ak 32 (cX 5 SpB qe):=gu Iy 6 (by kernel_rfl) SpB rfl (by decide) IA
def zN (X:SpV):List Tx:=aI ((x8 X.K).map Prod.fst)
theorem bF.U5{X:SpV}{c:SpC}(h:bF X c):((x8 X.K).map Prod.fst).Nodup/\∀k,aM (x8 X.K) k=X.K k:=by
 let A:List (Tx×cU):=c.x.A.filterMap λe=>(X.K e.1).map λy=>(e.1,y)
 have j:∀e∈c.x.A,∃y,X.K e.1=some y:=λe l=>by
  have a:=fb h.xk (show(e.1,e.2)∈c.x.A from l);rw[h.I]at a;obtain⟨y,b,_⟩:=Z7.1 a;exact⟨y,b⟩
 have m:A.map Prod.fst=c.x.A.map Prod.fst:=by
  have:∀B:List (Tx×List Lab),(∀e∈B,∃y,X.K e.1=some y)->(B.filterMap λe=>(X.K e.1).map λy=>(e.1,y)).map Prod.fst=B.map Prod.fst:=λB=>by
   induction B with
   |nil=>intro _;rfl
   |cons e B n=>
    intro g;obtain⟨y,b⟩:=g e q0b;rw[List.filterMap_cons,b];simp only[q0e,q1p];rw[n λq d=>g q (Y4 _ d)]
  exact this _ j
 have nd:(A.map Prod.fst).Nodup:=by rw[m];exact h.xk
 refine mY nd λk=>?_
 cases e:X.K k with
 |none=>
  cases o:aM A k with
  |none=>rfl
  |some y=>
   obtain⟨q,_,d⟩:=q2r.1 (cY o);obtain⟨z,i,f⟩:=Z7.1 d;injection f with f h3;rw[f,e]at i;cases i
 |some y=>
  have a:=h.I k;rw[e]at a;exact fb nd (q2r.2 ⟨(k,y.lab),cY a,by rw[e];rfl⟩)
theorem bF.keys{X:SpV}{c:SpC}(h:bF X c):aI (c.x.A.map Prod.fst)=zN X:=x9 λk=>by
 rw[q0t,q0t];constructor
 ·rintro⟨e,b,rfl⟩;have a:=fb h.xk (show(e.1,e.2)∈c.x.A from b);rw[h.I]at a;obtain⟨y,d,_⟩:=Z7.1 a;exact⟨(e.1,y),cY (by rw[h.U5.2];exact d),rfl⟩
 ·rintro⟨e,b,rfl⟩;have a:=fb h.U5.1 (show(e.1,e.2)∈x8 X.K from b);rw[h.U5.2]at a;exact⟨(e.1,e.2.lab),cY (by rw[h.I,a];rfl),rfl⟩
def Xe(X:SpV)(cs:List AV)(v:AV):Prop:=cs=[]/\v= .fr (zN X).length 1 (strs (zN X))
def U6(X:SpV)(cs:List AV)(v:AV):Prop:=cs=[]/\v= .fr (yB X).length 5 (ruL (yB X))
def Yo:FuncId->EP:=aq 65 (eg 4 IxB WZ) (aq 53 (eg 2 GrB W4) evP)
theorem IC:aV Yo:=ag (ag az Rb) Oh
theorem OJ:ak 25 (eg 5 SpB Xe):=(gu IC 5 (by kernel_rfl) SpB rfl (by decide) λX cs b v ⟨d,e,f⟩=>by
 subst d e f;refine⟨rfl,rfl,λc a=>?_⟩;have hk:=a.keys;have g:c.x.A.length<=1000:=Y7 a.xl a.n9
 conv=>whnf
 refine⟨2,c.px,c.x,[],.fr (zN b).length 1 (strs (zN b)),rfl,by decide,by decide,.nil,rfl,rfl,?_,?_⟩
 ·exact⟨rfl,Y7 g (by decide),by rw[hk];rfl⟩
 conv=>whnf
 exact⟨_,c,.same,a,bP rfl rfl rfl rfl rfl⟩).ol
theorem zO:ak 12 (eg 5 SpB U6):=(gu IC 5 (by kernel_rfl) SpB rfl (by decide) λX cs b v ⟨d,e,f⟩=>by
 subst d e f;refine⟨rfl,rfl,λc a=>?_⟩;have hk:=a.all;have h:c.g.length<=1000:=Y7 a.gl a.n9
 conv=>whnf
 refine⟨3,c.pg,c.g,[],.fr (yB b).length 5 (ruL (yB b)),rfl,by decide,by decide,.nil,rfl,rfl,?_,?_⟩
 ·exact⟨rfl,h,by rw[hk]⟩
 conv=>whnf
 exact⟨_,c,.same,a,bP rfl rfl rfl rfl rfl⟩).ol
def m5(X:SpV)(d:Tx)(r:Option Rl):SpV:={X with R:=λx=>if x=d then r else X.R x}
def qj(X:SpV)(s d:Tx):SpV×Int:=match X.R d with
 |none=>(X,5)
 |some r=>if r.src=s then(m5 X d none,0)else(X,5)
def U7(X:SpV)(cs:List AV)(a:SpV)(v:AV):Prop:=∃s d Y,cs=[.ss s,.ss d]/\qj X s d=Y/\a=Y.1/\v= .si .i64 Y.2
def Yp:FuncId->EP:=aq 109 (cX 2 GrB W7) evP
theorem Rp:aV Yp:=ag az Ow
theorem bF.gr{X:SpV}{c:SpC}(h:bF X c){g:Gr}{R:Tx->Option Rl}(a:(g.map Prod.fst).Nodup)(b:g.length<=X.n)(d:∀k,aM g k=R k)(f:∀e∈g,e.2.dst=e.1)(i:∀k r,R k=some r->bk r=true):bF {X with R:=R} {c with g:=g}:=
 ⟨h.o,h.xk,a,h.n9,h.ml,h.xl,h.xw,b,h.K,h.I,d,f,h.ser,h.key,i⟩
theorem yb:ak 49 (cX 5 SpB U7):=gu Rp 5 (by kernel_rfl) SpB rfl (by decide) λX cs m v ⟨s,d,Y,i,b,j,k⟩=>by
 subst i j k;refine⟨rfl,rfl,λc a=>?_⟩;have f:=a.R d;unfold qj at b;cases hd:X.R d with
 |none=>
  rw[hd]at f b;have e:qC c.g s d=(c.g,.tup [.agg [.str [],.str [],.int .i64 0,.int .i64 0,.int .i64 0],.si .i64 5]):=by unfold qC;rw[f]
  subst b
  conv=>whnf
  refine⟨3,c.pg,c.g,[.ss s,.ss d],_,_,_,rfl,by decide,by decide,.cons .same (.cons .same .nil),rfl,rfl,⟨s,d,_,rfl,e,rfl,rfl⟩,?_⟩
  conv=>whnf
  exact⟨_,c,.told rfl,a,bP rfl rfl rfl rfl rfl⟩
 |some r=>
  rw[hd]at f b;dsimp only at b;by_cases q:r.src=s
  ·have e:qC c.g s d=(dA c.g d,.tup [gR r,.si .i64 0]):=by unfold qC;rw[f];exact if_pos q
   rw[if_pos q]at b;subst b
   have ok:bF (m5 X d none) {c with g:=dA c.g d}:=a.gr (sW a.gk d) (Y7 (pC _ _) a.gl) (λx=>by rw[qc a.gk,a.R]) (λe l=>a.dst e (sV l)) (λx y h=>by
    by_cases q:x=d
    ·rw[if_pos q]at h;cases h
    ·rw[if_neg q]at h;exact a.rul x y h)
   conv=>whnf
   refine⟨3,c.pg,c.g,[.ss s,.ss d],_,_,_,rfl,by decide,by decide,.cons .same (.cons .same .nil),rfl,rfl,⟨s,d,_,rfl,e,rfl,rfl⟩,?_⟩
   conv=>whnf
   exact⟨_,{c with g:=dA c.g d},.told rfl,ok,bP rfl rfl rfl rfl rfl⟩
  ·have e:qC c.g s d=(c.g,.tup [.agg [.str [],.str [],.int .i64 0,.int .i64 0,.int .i64 0],.si .i64 5]):=by unfold qC;rw[f];exact if_neg q
   rw[if_neg q]at b;subst b
   conv=>whnf
   refine⟨3,c.pg,c.g,[.ss s,.ss d],_,_,_,rfl,by decide,by decide,.cons .same (.cons .same .nil),rfl,rfl,⟨s,d,_,rfl,e,rfl,rfl⟩,?_⟩
   conv=>whnf
   exact⟨_,c,.told rfl,a,bP rfl rfl rfl rfl rfl⟩
section
variable {φ:Ph} {H:AH} {n:Nat} {h0 h:Hp} {b m:Nat} {Q Q' R:HP}
theorem HR.shrink(a:HR φ H n h0 h)(w:H.get b=some (.sep Q))(d:∀z X h,Q.P z X h->∃Y:Nat->Prop,(∀B,Y B->X B)/\Q'.P z Y h):∃ψ,PLe φ ψ/\HR ψ (H.set (some (.sep Q')) aa b) n h0 h:=by
 obtain⟨Y,U,V⟩:=d _ _ _ (a.sep b _ w).1;have s4:=(a.sep b _ w).2;have l:=a.nJ w
 let ψ:Ph:=⟨φ.f,φ.z,φ.y,λx=>if x=b then Y else φ.s x⟩
 have sb:ψ.s b=Y:=if_pos rfl
 have N:∀x,x≠b->ψ.s x=φ.s x:=λx p=>if_neg p
 have cs:∀x o,(H.set (some (.sep Q')) aa b).get x=some o->(x=b/\o= .sep Q')∨(x≠b/\H.get x=some o):=λx o c=>by
  rcases PM.al aa H b x o c with⟨p,i⟩|i
  ·injection i with i;exact .inl ⟨p,i.symm⟩
  ·exact .inr i
 have own:∀x o q,(H.set (some (.sep Q')) aa b).get x=some o->φ x=some q->H.get x=some o:=λx o q c d=>by
  rcases cs x o c with⟨rfl,_⟩|⟨_,C⟩
  ·rw[l]at d;cases d
  ·exact C
 have sle:SLe φ ψ:=⟨λ_ _ h=>h,λ_ h=>h⟩
 have up:∀{x B},ψ.s x B->φ.s x B:=λ{x B} k=>by
  by_cases q:x=b
  ·subst q;rw[sb]at k;exact U B k
  ·rw[N x q]at k;exact k
 refine⟨ψ,⟨λ_ _ h=>h,λ_ h=>h,λ_ h=>h⟩,⟨a.dom,λx o c=>?_,λx y o r q O c j ho D d t e=>a.inj x y o r q O (own x o q c d) (own y r O j t) ho D d t e,a.base,a.size,λq d=>⟨⟨FzR.mono (φ:=φ) (ψ:=ψ) sle.z (a.frz q d).1.1,(a.frz q d).1.2⟩,λx o px c ho u=>(a.frz q d).2 x o px (own x o px c u) ho u⟩,λx A c=>?_⟩⟩
 ·rcases cs x o c with⟨rfl,rfl⟩|⟨_,W⟩
  ·exact .inl ⟨l,rfl⟩
  ·rcases a.live x o W with g|⟨q,Z,E,F,G,I⟩
   ·exact .inl g
   ·exact .inr ⟨q,Z,E,F,G,I.da sle⟩
 ·have v:∀{y A},(H.set (some (.sep Q')) aa b).get y=some (.sep A)->∃J,H.get y=some (.sep J):=λ{y A} j=>by
   rcases cs y _ j with⟨rfl,_⟩|⟨_,C⟩
   ·exact⟨_,w⟩
   ·exact⟨_,C⟩
  refine⟨?_,λB k=>?_⟩
  ·rcases cs x _ c with⟨rfl,i⟩|⟨p,i⟩
   ·injection i with i;subst i;rw[sb];exact V
   ·rw[N x p];exact(a.sep x A i).1
  ·obtain⟨J,K⟩:=v c;obtain⟨E,F,G,I⟩:=(a.sep x J K).2 B (up k)
   exact⟨E,λy r S j ho T=>F y r S (own y r S j T) ho T,G,λy Q4 j L hs=>by
    obtain⟨Q5,M⟩:=v j;exact I y Q5 M L (up hs)⟩
theorem KQ(A C:List HP){z:Fz->Prop}{X:Nat->Prop}{h:Hp}(a:(aG (A++Q::C)).P z X h):∃Y:Nat->Prop,(∀B,Y B->X B)/\(aG (A++C)).P z Y h:=by
 obtain⟨Y,Z,c,f,g,d⟩:=tQ A a;exact⟨Z,λB e=>(c B).2 (.inr e),d⟩
theorem Re.Yq{A C:List HP}{u v:AV}(c:H.get b=some (.sep (aG (A++Q::C))))(e:mkT u=mkT v):Re H n u (H.set (some (.sep (aG (A++C)))) aa b) v:=λφ h0 h w d f=>by
 obtain⟨g,l,a⟩:=d.shrink c λz X h=>KQ A C
 exact⟨g,l,a,VR.mono l _ _ (H6 (e▸f.mkT))⟩
theorem HR.OK(i:HR φ H n h0 h)(a:b<1000000)(c:b≠m){A C:List HP}(j:H.get b=some (.sep (aG (A++C))))(k:H.get m=some (.sep Q)):∃ψ,PLe φ ψ/\HR ψ ((H.set none aa m).set (some (.sep (aG (A++Q::C)))) aa b) n h0 h:=by
 obtain⟨ψ,l,d⟩:=i.join c j k;have e:=d.uB (Q':=aG (A++Q::C)) (PM.geq a) λ_ _ _=>xK A
 refine⟨ψ,l,e.less λx o p=>?_⟩;rcases PM.al aa _ b x o p with⟨rfl,f⟩|⟨g,f⟩
 ·rw[PM.geq a];exact f
 ·exact PM.gne a g (PM.gne a g f)
theorem Re.OK{A C:List HP}{u v:AV}(a:b<1000000)(c:b≠m)(f:H.get b=some (.sep (aG (A++C))))(g:H.get m=some (.sep Q))(e:mkT u=mkT v):Re H n u ((H.set none aa m).set (some (.sep (aG (A++Q::C)))) aa b) v:=λφ h0 h w i j=>by
 obtain⟨k,l,d⟩:=i.OK a c f g;exact⟨k,l,d,VR.mono l _ _ (H6 (e▸j.mkT))⟩
end
def jz(X:SpV)(k:Tx):SpV:=if(X.K k).isSome=true then{X with K:=λx=>if x=k then none else X.K x,R:=λd=>match X.R d with
 |some r=>if qB k r=true then none else some r
 |none=>none}else X
def Rq(X:SpV)(cs:List AV)(a:SpV)(v:AV):Prop:=∃k,cs=[.ss k]/\a=jz X k/\v= .sb (X.K k).isSome
def U8:FuncId->EP:=aq 68 (cX 4 IxB Q1) (aq 69 (cX 2 GrB W5) evP)
theorem Rr:aV U8:=ag (ag az Ot) Of
theorem bF.drop{X:SpV}{c:SpC}(h:bF X c){k:Tx}(i:(X.K k).isSome=true):bF (jz X k) {c with m:=c.m.del k,x:=⟨dA c.x.A k,c.x.w⟩,g:=uK c.g k}:=by
 obtain⟨j,l,p⟩:=KM h.gk h.dst k;unfold jz;rw[if_pos i];refine⟨h.o.del k,sW h.xk k,j,h.n9,?_,Y7 (pC _ _) h.xl,h.xw,Y7 l h.gl,λx=>?_,λx=>?_,λd=>?_,λe a=>h.dst e (tZ a),λx e a=>?_,λx e a=>?_,λd r f=>?_⟩
 ·rw[xU];exact Y7 (pC _ _) h.ml
 ·rw[D8 h.o];by_cases q:x=k
  ·simp[q]
  ·simp[q,h.K x]
 ·rw[qc h.xk];by_cases q:x=k
  ·simp[q]
  ·simp[q,h.I x]
 ·rw[p,h.R]<;>rfl
 ·dsimp only at a;by_cases q:x=k
  ·rw[if_pos q]at a;cases a
  ·rw[if_neg q]at a;exact h.ser x e a
 ·dsimp only at a;by_cases q:x=k
  ·rw[if_pos q]at a;cases a
  ·rw[if_neg q]at a;exact h.key x e a
 ·dsimp only at f;split at f
  ·rename_i s t;split at f
   ·cases f
   ·injection f with f;subst f;exact h.rul d s t
  ·cases f
theorem bF.Yr{X:SpV}{c:SpC}(h:bF X c){k:Tx}{E:SE}{a f:List (Tx×SE)}(g:c.m.A=a++(k,E)::f):(c.m.del k).A=a++f:=by
 have j:∀e∈a,k≠e.1:=λe d q=>by
  have:=h.o.key;rw[g,q0r,q1p,q3s]at this;exact this.2.2 e.1 (q0t.2 ⟨e,d,rfl⟩) k q0b q.symm
 have l:∀(a:List (Tx×SE)) (i:Nat),(∀e∈a,k≠e.1)->gA k (a++(k,E)::f) i=some (i+a.length,E):=λa=>by
  induction a with
  |nil=>intro i _;simp[gA]
  |cons e a p=>
   intro i d;rw[q1y];unfold gA;rw[if_neg (d e q0b),p (i+1) λx r=>d x (Y4 _ r)];simp only[Z9];congr 2;omega
 rw[xU,g];unfold dA;rw[l a 0 j];dsimp only;rw[q0x,List.eraseIdx_append_of_length_le (Z3 _),Nat.sub_self];rfl
theorem Gj(X:SpV)(k:Tx)(c:SpC)(a:bF X c):ax U8 5 27 [.ptr 0 0,.ss k] (mkH (bM (spO c) 0)) 5 (gm SpB (jz X k) (.sb (X.K k).isSome)):=by
 have d:=a.has k;have j:c.x.w<900000:=by have:=a.xw;have:=a.n9;omega
 have p:c.g.length<=1000:=Y7 a.gl a.n9;cases f:X.K k with
 |none=>
  rw[f]at d;have e:jz X k=X:=by unfold jz;rw[f];rfl
  have r:aM c.x.A k=none:=by cases q:aM c.x.A k with
   |none=>rfl
   |some y=>rw[q]at d;cases d
  have s:(⟨dA c.x.A k,c.x.w⟩:Ix)=c.x:=by rw[tX r]
  rw[e]
  conv=>whnf
  refine⟨2,c.px,c.x,[.ss k],c.x,.sb false,_,rfl,by decide,by decide,.cons .same .nil,rfl,rfl,⟨k,rfl,j,s.symm,congrArg AV.sb d.symm⟩,?_⟩
  conv=>whnf
  refine ae.nsb (λz=>?_) (λz=>?_)
  focus
   conv=>whnf
   exact⟨_,c,.told rfl,a,bP rfl rfl rfl rfl rfl⟩
  cases z
 |some y=>
  rw[f]at d;obtain⟨v,l,o,B,t,D,u⟩:=a.at1 f;have ok:=a.drop (k:=k) (by rw[f];rfl);have i:aN (c.m.del k).A=aN l++aN o:=by rw[a.Yr t];unfold aN;rw[q0r]
  conv=>whnf
  refine⟨2,c.px,c.x,[.ss k],⟨dA c.x.A k,c.x.w⟩,.sb true,_,rfl,by decide,by decide,.cons .same .nil,rfl,rfl,⟨k,rfl,j,rfl,congrArg AV.sb d.symm⟩,?_⟩
  conv=>whnf
  refine ae.nsb (λz=>?_) (λz=>?_)
  focus
   cases z
  conv=>whnf
  refine Ask.mk _ (tW (m:=c.m) (g:=gE) (k:=k) bS ot rfl rfl rfl) ?_
  conv=>whnf
  refine⟨3,c.pg,c.g,[.ss k],uK c.g k,_,_,rfl,by decide,by decide,.cons .same .nil,rfl,rfl,⟨k,rfl,p,rfl,rfl⟩,?_⟩
  conv=>whnf
  exact⟨_,{c with m:=c.m.del k,x:=⟨dA c.x.A k,c.x.w⟩,g:=uK c.g k},.Yq (b:=4) (A:=aN l) (C:=aN o) (congrArg (λx=>some (AO.sep (aG x))) u) rfl,ok,bP rfl rfl rfl rfl (congrArg (λx=>some (AO.sep (aG x))) i.symm)⟩
theorem Ys:∀X cs a v,Rq X cs a v->cs.all gT=true/\gT v=true/\∀c,SpB.ok X c->ax U8 5 27 (.ptr 0 0::cs) (mkH (bM (SpB.O c) 0)) 5 (gm SpB a v):=λX cs a v ⟨k,d,e,f⟩=>by
 subst d e f;exact⟨rfl,rfl,λc g=>Gj X k c g⟩
theorem Ek:ak 27 (cX 5 SpB Rq):=gu Rr 5 (by kernel_rfl) SpB rfl (by decide) Ys
def crK(X:SpV)(k:Tx)(y:cU):SpV:={X with K:=λx=>if x=k then some y else X.K x,n:=X.n+1}
def crF (X:SpV) (k:Tx) (z ret pol:Int) (l:List Lab):SpV×Int:=match mQ z ret pol with
 |none=>(X,1)
 |some S=>if(iI k&&ew l)=true then(if(X.K k).isSome=true then(X,6)else(crK X k ⟨S,[],z,b9 l⟩,0))else(X,1)
def Gk(z ret pol:Int)(l:List Lab):AV:= .agg [.si .i64 z,.si .i64 ret,.si .i64 pol,gL l]
def Rs(X:SpV)(cs:List AV)(a:SpV)(v:AV):Prop:=∃k z ret pol l Y,cs=[.ss k,Gk z ret pol l]/\l.length<=1000/\X.n<1000/\crF X k z ret pol l=Y/\a=Y.1/\v= .si .i64 Y.2
def Rt:FuncId->EP:=bg 46 [] (aq 104 Bw (aq 84 (eg 4 IxB Kv) (aq 107 (cX 4 IxB WY) (aq 105 (db D5) (aq 106 (db UH) (aq 108 OA evP))))))
theorem ID:aV Rt:=au (ag (ag (ag (ag (ag (ag az U0) WU) Ic) Q8) sT) Uv) (by kernel_rfl) (by kernel_rfl)
theorem KR{m:MpC Tx SE}{k:Tx}(h:aM m.A k=none)(E:SE):(m.put k E).A=m.A++ [(k,E)]:=by
 unfold aM at h;rw[Option.map_eq_none_iff]at h;unfold MpC.put;rw[h]
theorem Ru{V:Type}{A:List (Tx×V)}{k:Tx}{q:Bool}(h:(aM A k).isSome=q)(a:q=false):aM A k=none:=by
 cases e:aM A k with
 |none=>rfl
 |some y=>rw[e,a]at h;cases h
theorem bF.create{X:SpV}{c:SpC}(h:bF X c){k:Tx}(e:X.K k=none)(hn:X.n<1000){p:Nat×Nat}{S:Sr}{z:Int}{l:List Lab}(ho:fR S [])(b:iI k=true)(i:ew l=true):bF (crK X k ⟨S,[],z,b9 l⟩) {c with m:=c.m.put k ⟨p,S,[],z⟩,x:=⟨gU (dA c.x.A k) k (b9 l),c.x.w+8⟩}/\aN (c.m.put k ⟨p,S,[],z⟩).A=aN c.m.A++ [cz p S []]:=by
 have j:aM c.x.A k=none:=Ru (h.has k) (by rw[e];rfl);have f:=KR (h.no1 e) ⟨p,S,[],z⟩;have d:dA c.x.A k=c.x.A:=tX j;have r:=h.ml;have s:=h.xl;have t:=h.xw;have u:=h.gl;refine⟨⟨h.o.put k _,?_,h.gk,?_,?_,?_,?_,?_,λx=>?_,λx=>?_,h.R,h.dst,λx y a=>?_,λx y a=>?_,h.rul⟩,?_⟩
 ·show((gU (dA c.x.A k) k (b9 l)).map Prod.fst).Nodup;rw[d];exact vt h.xk _ _
 ·show X.n+1<=1000;omega
 ·show(c.m.put k _).A.length<=X.n+1;rw[f,Z6];show _+1<=_;omega
 ·show(gU (dA c.x.A k) k (b9 l)).length<=X.n+1;rw[d];have:=ya c.x.A k (b9 l);omega
 ·show c.x.w+8<=8*(X.n+1);omega
 ·show c.g.length<=X.n+1;omega
 ·show(aM (c.m.put k _).A x).map KF=((crK X k ⟨S,[],z,b9 l⟩).K x).map Gh;rw[xQ h.o];by_cases q:x=k
  ·subst q;simp[crK,KF,Gh]
  ·simp[crK,q,h.K x]
 ·show aM (gU (dA c.x.A k) k (b9 l)) x=((crK X k ⟨S,[],z,b9 l⟩).K x).map cU.lab;rw[d,qd h.xk];by_cases q:x=k
  ·subst q;simp[crK]
  ·simp[crK,q,h.I x]
 ·simp only[crK]at a;by_cases q:x=k
  ·rw[if_pos q]at a;injection a with a;subst a;exact ho
  ·rw[if_neg q]at a;exact h.ser x y a
 ·simp only[crK]at a;by_cases q:x=k
  ·subst q;exact b
  ·rw[if_neg q]at a;exact h.key x y a
 ·rw[f];unfold aN;rw[q0r];rfl
theorem BP(X:SpV)(k:Tx)(z ret pol:Int)(l:List Lab)(c:SpC)(d:bF X c)(s:l.length<=1000)(hn:X.n<1000){Y:SpV×Int}(a:crF X k z ret pol l=Y):ax Rt 5 46 [.ptr 0 0,.ss k,Gk z ret pol l] (mkH (bM (spO c) 0)) 5 (gm SpB Y.1 (.si .i64 Y.2)):=by
 obtain⟨t,B⟩:=Y;have D:=d.has k;have E:c.x.w<800000:=by have:=d.xw;have:=d.n9;omega
 unfold crF at a
 have no:∀u H n,(X,(1:Int))=(t,B)->u=AV.int .i64 1->H.get 0=some (.cells [.map 1,aK c.px,aK c.pg] true)->H.get 1=some (c.m.O kT gE)->H.get 2=some (.sep (IxB.Q c.x c.px))->H.get 3=some (.sep (GrB.Q c.g c.pg))->H.get 4=some (.sep (aG (aN c.m.A)))->gm SpB t (.si .i64 B) u H n:=λu H n e f F G I J L=>by
  injection e with e3 e4;subst f e3 e4;exact⟨_,c,.told rfl,d,bP F G I J L⟩
 cases o:mQ z ret pol with
 |none=>
  rw[o]at a
  conv=>whnf
  refine⟨z,ret,pol,none,rfl,rfl,rfl,⟨by decide,rfl,rfl,rfl,rfl⟩,o,?_⟩
  conv=>whnf
  exact no _ _ _ a rfl rfl rfl rfl rfl rfl
 |some S=>
  rw[o]at a;dsimp only at a
  conv=>whnf
  refine⟨z,ret,pol,some S,rfl,rfl,rfl,⟨by decide,rfl,rfl,rfl,rfl⟩,o,λp ho=>?_⟩
  conv=>whnf
  refine⟨_,_,_,.cons .same .nil,⟨k,rfl,rfl⟩,?_⟩
  conv=>whnf
  refine ae.nsb (λh=>?_) (λh=>?_)
  focus
   rw[if_neg (by rw[h];simp)]at a
   conv=>whnf
   exact no _ _ _ a rfl rfl rfl rfl rfl rfl
  conv=>whnf
  refine⟨_,_,_,.cons .same .nil,⟨l,rfl,s,rfl⟩,?_⟩
  conv=>whnf
  refine ae.nsb (λz2=>?_) (λz2=>?_)
  focus
   rw[if_neg (by rw[z2];simp)]at a
   conv=>whnf
   exact no _ _ _ a rfl rfl rfl rfl rfl rfl
  rw[if_pos (by rw[h,z2];rfl)]at a
  conv=>whnf
  refine⟨2,c.px,c.x,[.ss k],.sb (X.K k).isSome,rfl,by decide,by decide,.cons .same .nil,rfl,rfl,⟨k,rfl,congrArg AV.sb D.symm⟩,?_⟩
  conv=>whnf
  refine ae.sb (λi=>?_) (λi=>?_)
  focus
   rw[if_pos i]at a;injection a with e f;subst e f
   conv=>whnf
   exact⟨_,c,.told rfl,d,bP rfl rfl rfl rfl rfl⟩
  rw[if_neg (by rw[i];simp)]at a;injection a with e f;subst e f
  have M:X.K k=none:=by cases q:X.K k with
   |none=>rfl
   |some y=>rw[q]at i;cases i
  obtain⟨ok,r⟩:=d.create (p:=p) (z:=z) M hn ho h z2;have j:pA c.x k l=(⟨gU (dA c.x.A k) k (b9 l),c.x.w+8⟩,.si .i64 0):=by unfold pA;rw[if_pos (by rw[h,z2];rfl)]
  conv=>whnf
  refine Ask.mk _ (xS (m:=c.m) (g:=gE) (v:=⟨p,S,[],z⟩) (k:=k) bS ot rfl rfl rfl rfl) ?_
  conv=>whnf
  refine⟨2,c.px,c.x,[.ss k,gL l],_,_,_,rfl,by decide,by decide,.cons .same (.cons .same .nil),rfl,rfl,⟨k,l,_,rfl,s,E,j,rfl,rfl,rfl⟩,?_⟩
  conv=>whnf
  exact⟨_,{c with m:=c.m.put k ⟨p,S,[],z⟩,x:=⟨gU (dA c.x.A k) k (b9 l),c.x.w+8⟩},.OK (b:=4) (m:=6) (A:=aN c.m.A) (C:=[]) (by decide) (by decide) (congrArg (λx=>some (AO.sep (aG x))) (q1d _).symm) rfl rfl,ok,bP rfl rfl rfl rfl (congrArg (λx=>some (AO.sep (aG x))) r.symm)⟩
theorem Yt:∀X cs a v,Rs X cs a v->cs.all gT=true/\gT v=true/\∀c,SpB.ok X c->ax Rt 5 46 (.ptr 0 0::cs) (mkH (bM (SpB.O c) 0)) 5 (gm SpB a v):=λX cs a v ⟨k,z,ret,pol,l,Y,b,d,e,f,g,h⟩=>by
 subst b g h;exact⟨rfl,rfl,λc i=>BP X k z ret pol l c i d e f⟩
theorem yc:ak 46 (cX 5 SpB Rs):=gu ID 5 (by kernel_rfl) SpB rfl (by decide) Yt
def rA (X:SpV) (k:Tx) (ret pol:Int) (l:List Lab):SpV×Int:=match X.K k with
 |none=>(X,5)
 |some e=>if ew l=true then(if(cV e.S e.L ret pol).2≠0 then(X,(cV e.S e.L ret pol).2)else(crK X k ⟨(cV e.S e.L ret pol).1.1,(cV e.S e.L ret pol).1.2,e.z,b9 l⟩,0))else(X,1)
def Xf(X:SpV)(cs:List AV)(a:SpV)(v:AV):Prop:=∃k ret pol l Y,cs=[.ss k,.si .i64 ret,.si .i64 pol,gL l]/\l.length<=1000/\X.n<1000/\Bnd X 40000/\rA X k ret pol l=Y/\a=Y.1/\v= .si .i64 Y.2
theorem OL{S S':Sr}{L a:Smp}{r p e:Int}(h:cV S L r p=((S',a),e))(b:e≠0):S'=S/\a=L:=by
 unfold cV at h;split at h
 all_goals(injection h with h1 h2;injection h1 with c d;first|exact⟨c.symm,d.symm⟩|exact absurd h2.symm b)
theorem OM(X:SpV)(k:Tx)(e y:cU):crK (fu X k e) k y=crK X k y:=by
 unfold crK fu;congr 1;funext x;dsimp only;split<;>rfl
theorem bF.Xg{X:SpV}{c:SpC}(h:bF X c){k:Tx}{e:cU}(b:X.K k=some e)(hn:X.n<1000){l:List Lab}:bF (crK X k {e with lab:=b9 l}) {c with x:=⟨gU (dA c.x.A k) k (b9 l),c.x.w+8⟩}:=by
 have d:=h.ml;have f:=h.xl;have i:=h.xw;have j:=h.gl;have p:=pC c.x.A k;refine⟨h.o,?_,h.gk,?_,?_,?_,?_,?_,λx=>?_,λx=>?_,h.R,h.dst,λx y a=>?_,λx y a=>?_,h.rul⟩
 ·exact vt (sW h.xk k) _ _
 ·show X.n+1<=1000;omega
 ·show c.m.A.length<=X.n+1;omega
 ·show(gU (dA c.x.A k) k (b9 l)).length<=X.n+1;have:=ya (dA c.x.A k) k (b9 l);omega
 ·show c.x.w+8<=8*(X.n+1);omega
 ·show c.g.length<=X.n+1;omega
 ·show(aM c.m.A x).map KF=((crK X k {e with lab:=b9 l}).K x).map Gh;rw[h.K];by_cases q:x=k
  ·subst q;simp[crK,b,Gh]
  ·simp[crK,q]
 ·show aM (gU (dA c.x.A k) k (b9 l)) x=((crK X k {e with lab:=b9 l}).K x).map cU.lab;rw[qd (sW h.xk k),qc h.xk];by_cases q:x=k
  ·subst q;simp[crK]
  ·simp[crK,q,h.I x]
 ·simp only[crK]at a;by_cases q:x=k
  ·rw[if_pos q]at a;injection a with a;subst a;exact h.ser k e b
  ·rw[if_neg q]at a;exact h.ser x y a
 ·simp only[crK]at a;by_cases q:x=k
  ·subst q;exact h.key x e b
  ·rw[if_neg q]at a;exact h.key x y a
theorem El(X:SpV)(k:Tx)(ret pol:Int)(l:List Lab)(c:SpC)(b:bF X c)(u:l.length<=1000)(hn:X.n<1000)(C:Bnd X 40000){Y:SpV×Int}(a:rA X k ret pol l=Y):ax Rt 5 47 [.ptr 0 0,.ss k,.si .i64 ret,.si .i64 pol,gL l] (mkH (bM (spO c) 0)) 5 (gm SpB Y.1 (.si .i64 Y.2)):=by
 obtain⟨D,P⟩:=Y;have j:=b.has k;have E:c.x.w<800000:=by have:=b.xw;have:=b.n9;omega
 unfold rA at a;cases d:X.K k with
 |none=>
  rw[d]at j a;injection a with e1 e2;subst e1 e2
  conv=>whnf
  refine⟨2,c.px,c.x,[.ss k],.sb false,rfl,by decide,by decide,.cons .same .nil,rfl,rfl,⟨k,rfl,congrArg AV.sb j.symm⟩,?_⟩
  conv=>whnf
  refine ae.nsb (λz=>?_) (λz=>?_)
  focus
   conv=>whnf
   exact⟨_,c,.told rfl,b,bP rfl rfl rfl rfl rfl⟩
  cases z
 |some e=>
  rw[d]at j a;dsimp only at a;obtain⟨o,F,G,v,r,H,I⟩:=b.at1 d;have J:=C k e d
  conv=>whnf
  refine⟨2,c.px,c.x,[.ss k],.sb true,rfl,by decide,by decide,.cons .same .nil,rfl,rfl,⟨k,rfl,congrArg AV.sb j.symm⟩,?_⟩
  conv=>whnf
  refine ae.nsb (λz=>?_) (λz=>?_)
  focus
   cases z
  conv=>whnf
  refine⟨_,_,_,.cons .same .nil,⟨l,rfl,u,rfl⟩,?_⟩
  conv=>whnf
  refine ae.nsb (λz2=>?_) (λz2=>?_)
  focus
   rw[if_neg (by rw[z2];simp)]at a;injection a with e1 e2;subst e1 e2
   conv=>whnf
   exact⟨_,c,.told rfl,b,bP rfl rfl rfl rfl rfl⟩
  rw[if_pos z2]at a;obtain⟨Z,s⟩:∃Z,Z=cV e.S e.L ret pol:=⟨_,rfl⟩;rw[<-s]at a;obtain⟨⟨f,h⟩,M⟩:=Z;dsimp only at a
  conv=>whnf
  refine Ask.mk _ (aZ (m:=c.m) (g:=gE) (k:=k) bS ot rfl rfl rfl qi v) ?_
  conv=>whnf
  refine⟨4,aN F,aN G,o,e.S,e.L,ret,pol,f,h,M,rfl,by decide,by decide,rfl,congrArg (λx=>some (AO.sep (aG x))) I,rfl,rfl,J,s.symm,λho=>?_⟩;obtain⟨t,y,B⟩:=b.x6 d v r H ho
  conv=>whnf
  refine ae.dk (λp=>?_) (λp=>?_)
  focus
   rw[if_pos p]at a;injection a with e1 e2;subst e1 e2
   have N:fu X k {e with S:=f,L:=h}=X:=by
    obtain⟨r,O⟩:f=e.S/\h=e.L:=OL s.symm p;rw[r,O];exact BM d
   rw[N]at t
   conv=>whnf
   exact⟨_,{c with m:=c.m.put k ⟨o,f,h,e.z⟩},.told rfl,t,bP rfl (congrArg some y.symm) rfl rfl (congrArg (λx=>some (AO.sep (aG x))) B.symm)⟩
  rw[if_neg (λq=>q p)]at a;injection a with e1 e2;have ok:=t.Xg (k:=k) (e:={e with S:=f,L:=h}) (by rw[c9,if_pos rfl]) hn (l:=l);rw[OM]at ok;have ok:bF D {c with m:=c.m.put k ⟨o,f,h,e.z⟩,x:=⟨gU (dA c.x.A k) k (b9 l),c.x.w+8⟩}:=by rw[<-e1];exact ok
  subst e2;have i:pA c.x k l=(⟨gU (dA c.x.A k) k (b9 l),c.x.w+8⟩,.si .i64 0):=by unfold pA;rw[if_pos (by rw[b.key _ _ d,z2];rfl)]
  conv=>whnf
  refine⟨2,c.px,c.x,[.ss k,gL l],_,_,_,rfl,by decide,by decide,.cons .same (.cons .same .nil),rfl,rfl,⟨k,l,_,rfl,u,E,i,rfl,rfl,rfl⟩,?_⟩
  conv=>whnf
  exact⟨_,{c with m:=c.m.put k ⟨o,f,h,e.z⟩,x:=⟨gU (dA c.x.A k) k (b9 l),c.x.w+8⟩},.told rfl,ok,bP rfl (congrArg some y.symm) rfl rfl (congrArg (λx=>some (AO.sep (aG x))) B.symm)⟩
theorem KS:ak 47 (cX 5 SpB Xf):=gu ID 5 (by kernel_rfl) SpB rfl (by decide) λX cs j v ⟨k,ret,pol,l,Y,a,b,d,e,f,g,h⟩=>by
 subst a g h;exact⟨rfl,rfl,λc i=>El X k ret pol l c i b d e f⟩
def rlF (X:SpV) (r:Rl):SpV×Int:=
 if bk r=true then(if(X.K r.src).isSome=true/\(X.K r.dst).isSome=true then(if(X.R r.dst).isSome=true then(X,6)else if(X.R r.src).isSome=true∨0<(ofX X r.dst).length then(X,10)else({m5 X r.dst (some r)with n:=X.n+1},0))else(X,5))else(X,1)
def U9(X:SpV)(cs:List AV)(a:SpV)(v:AV):Prop:=∃r Y,cs=[gR r]/\X.n<1000/\rlF X r=Y/\a=Y.1/\v= .si .i64 Y.2
def Va:FuncId->EP:=bg 38 [] (aq 89 (db UO) (cn 84 (eg 4 IxB Kv) (aq 90 (cX 2 GrB SG) evP)))
theorem Rv:aV Va:=au (ag (aL (ag az Rd) sT (F3 _ _ _)) W3) (by kernel_rfl) (by kernel_rfl)
theorem Vb{X:SpV}{c:SpC}(h:bF X c){r:Rl}(a:bk r=true):BI c.g r=(if(X.R r.dst).isSome=true then(c.g,.si .i64 6)else if(X.R r.src).isSome=true∨0<(ofX X r.dst).length then(c.g,.si .i64 10)else(gU c.g r.dst r,.si .i64 0)):=by
 unfold BI;rw[if_neg (by rw[a];simp),h.R,h.R,h.of]
theorem BQ(X:SpV)(r:Rl)(c:SpC)(a:bF X c)(hn:X.n<1000){Y:SpV×Int}(b:rlF X r=Y):ax Va 5 38 [.ptr 0 0,gR r] (mkH (bM (spO c) 0)) 5 (gm SpB Y.1 (.si .i64 Y.2)):=by
 obtain⟨G,H⟩:=Y;have u:=a.has r.src;have v:=a.has r.dst;have l:c.g.length<=1000:=Y7 a.gl a.n9;unfold rlF at b
 conv=>whnf
 refine⟨_,_,_,.cons .same .nil,⟨r,rfl,rfl⟩,?_⟩
 conv=>whnf
 refine ae.nsb (λk=>?_) (λk=>?_)
 focus
  rw[if_neg (by rw[k];simp)]at b;injection b with f h;subst f h
  conv=>whnf
  exact⟨_,c,.told rfl,a,bP rfl rfl rfl rfl rfl⟩
 rw[if_pos k]at b
 conv=>whnf
 refine⟨2,c.px,c.x,[.ss r.src],.sb (X.K r.src).isSome,rfl,by decide,by decide,.cons .same .nil,rfl,rfl,⟨r.src,rfl,congrArg AV.sb u.symm⟩,?_⟩
 conv=>whnf
 refine ae.nsb (λz2=>?_) (λz2=>?_)
 focus
  rw[if_neg (λq=>by rw[z2]at q;cases q.1)]at b;injection b with f h;subst f h
  conv=>whnf
  exact⟨_,c,.told rfl,a,bP rfl rfl rfl rfl rfl⟩
 conv=>whnf
 refine⟨2,c.px,c.x,[.ss r.dst],.sb (X.K r.dst).isSome,rfl,by decide,by decide,.cons .same .nil,rfl,rfl,⟨r.dst,rfl,congrArg AV.sb v.symm⟩,?_⟩
 conv=>whnf
 refine ae.nsb (λp=>?_) (λp=>?_)
 focus
  rw[if_neg (λq=>by rw[p]at q;cases q.2)]at b;injection b with f h;subst f h
  conv=>whnf
  exact⟨_,c,.told rfl,a,bP rfl rfl rfl rfl rfl⟩
 rw[if_pos ⟨z2,p⟩]at b;have i:=Vb a k
 conv=>whnf
 by_cases s:(X.R r.dst).isSome=true
 ·rw[if_pos s]at b i;injection b with f h;subst f h;refine⟨3,c.pg,c.g,[gR r],_,_,_,rfl,by decide,by decide,.cons .same .nil,rfl,rfl,⟨r,_,rfl,l,i,rfl,rfl,rfl⟩,?_⟩
  conv=>whnf
  exact⟨_,c,.told rfl,a,bP rfl rfl rfl rfl rfl⟩
 ·rw[if_neg s]at b i;by_cases t:(X.R r.src).isSome=true∨0<(ofX X r.dst).length
  ·rw[if_pos t]at b i;injection b with f h;subst f h;refine⟨3,c.pg,c.g,[gR r],_,_,_,rfl,by decide,by decide,.cons .same .nil,rfl,rfl,⟨r,_,rfl,l,i,rfl,rfl,rfl⟩,?_⟩
   conv=>whnf
   exact⟨_,c,.told rfl,a,bP rfl rfl rfl rfl rfl⟩
  ·rw[if_neg t]at b i;injection b with f h;subst f h
   have ok:bF {m5 X r.dst (some r)with n:=X.n+1} {c with g:=gU c.g r.dst r}:=by
    have z:=a.ml;have B:=a.xl;have C:=a.xw;have D:=a.gl;have E:=ya c.g r.dst r;refine⟨a.o,a.xk,vt a.gk _ _,?_,?_,?_,?_,?_,a.K,a.I,λd=>?_,λe F=>?_,a.ser,a.key,λd y j=>?_⟩
    ·show X.n+1<=1000;omega
    ·show c.m.A.length<=X.n+1;omega
    ·show c.x.A.length<=X.n+1;omega
    ·show c.x.w<=8*(X.n+1);omega
    ·show(gU c.g r.dst r).length<=X.n+1;omega
    ·show aM (gU c.g r.dst r) d=if d=r.dst then some r else X.R d
     rw[qd a.gk,a.R]
    ·have:=fb (vt a.gk r.dst r) (show(e.1,e.2)∈gU c.g r.dst r from F);rw[qd a.gk]at this;split at this
     ·rename_i q;injection this with this;rw[q,<-this]
     ·exact a.dst e (cY this)
    ·have j:(if d=r.dst then some r else X.R d)=some y:=j;split at j
     ·injection j with j;subst j;exact k
     ·exact a.rul d y j
   refine⟨3,c.pg,c.g,[gR r],_,_,_,rfl,by decide,by decide,.cons .same .nil,rfl,rfl,⟨r,_,rfl,l,i,rfl,rfl,rfl⟩,?_⟩
   conv=>whnf
   exact⟨_,{c with g:=gU c.g r.dst r},.told rfl,ok,bP rfl rfl rfl rfl rfl⟩
theorem Yu:∀X cs a v,U9 X cs a v->cs.all gT=true/\gT v=true/\∀c,SpB.ok X c->ax Va 5 38 (.ptr 0 0::cs) (mkH (bM (SpB.O c) 0)) 5 (gm SpB a v):=λX cs a v ⟨r,Y,b,d,e,f,g⟩=>by
 subst b f g;exact⟨rfl,rfl,λc h=>BQ X r c h d e⟩
theorem Gl:ak 38 (iG 5 SpB U9):=xT (ay Rv 5 _) (by kernel_rfl) SpB rfl (by decide) Yu
def uP(B:Smp->List AV->Smp->Prop)(args:List AV)(H:AH)(n:Nat)(κ:PK):Prop:=match args with
 |x::a=>∃(b:Nat) (A C:List HP) (p:Nat×Nat) (S:Sr) (L O:Smp),x=aK p/\b<n/\n<700000/\iE H 5 n=true/\H.get b=some (.sep (aG (A++cz p S L::C)))/\B L a O/\κ (.fr O.length 2 (smp O)) H (n+5)
 |_=>False
theorem Gm(B:Smp->List AV->Smp->Prop):gY (uP B):=λargs H n l a=>by
 unfold uP at*;split at a
 ·obtain⟨b,A,C,p,S,L,O,c,d,e,f,g,i,j⟩:=a;exact⟨_,_,_,j,λ_ _ h=>h,q0q _ _,λk h=>⟨b,A,C,p,S,L,O,c,d,e,f,g,i,h⟩⟩
 ·exact a.elim
theorem ak.qf{f:FuncId}{B:Smp->List AV->Smp->Prop}(h:ak f (x7 B)):ak f (uP B):=λargs H n κ c F t G I K J a M=>by
 unfold uP at c;split at c
 ·rename_i x N;obtain⟨b,A,C,p,S,L,O,P,Q,R,v,T,U,V⟩:=c;refine h (x::N) H n (λu D E=>u= .rw (n+4) 0 O.length 2 0/\D=H.set (some (.cells (smp O) true)) aa (n+4)/\E=n+5) ⟨b,A,C,p,S,L,O,P,Q,R,v,T,U,rfl,rfl,rfl⟩ F t G I K J a λW u D E w g d X Y ⟨Z,e2,e3⟩=>?_
  subst Z e2 e3;obtain⟨χ,l,i,j⟩:=Re.row (x:=0) (z:=true) (H:=H.set (some (.cells (smp O) true)) aa (n+4)) (b:=n+4) (m:=O.length) (k:=2) (l:=smp O) (s:=smp O) (PM.geq (by omega)) (cg O) (bb O) rfl (by decide) W t g w X Y
  refine M χ _ H _ w g (d.trans l) (i.less λy o r=>?_) j V;have q:y≠n+4:=λe=>by subst e;rw[fc (k:=4) v (by decide)]at r;cases r
  exact PM.gne (by omega) q (PM.gne (by omega) q r)
 ·exact c.elim
theorem ON:ak 21 (uP DV):=SJ.qf
def bV(r:Rl)(s:Int×SpV)(x:Int×Int):Int×SpV:=if s.1<bB r x.1 then(bB r x.1,bU s.2 r (bB r x.1))else s
def sX(r:Rl)(X:SpV)(L:Smp):Int×SpV:=L.foldl (bV r) (-1,X)
theorem KT{r:Rl}{X:SpV}{L:Smp}{i:Nat}(h:i<L.length):sX r X (L.take (i+1))=bV r (sX r X (L.take i)) L[i]:=by
 unfold sX;rw[Y8 h,q3k];rfl
theorem nS{r:Rl}{k:Tx}:∀(L:Smp) {s:Int×SpV} {b:Nat},Bnd s.2 b→-1<=s.1->(L.foldl (bV r) s).2.R=s.2.R/\(L.foldl (bV r) s).2.n=s.2.n/\(∀x,((L.foldl (bV r) s).2.K x).isSome=(s.2.K x).isSome)/\(∀x,x≠r.dst->(L.foldl (bV r) s).2.K x=s.2.K x)/\Bnd (L.foldl (bV r) s).2 (b+L.length)∧-1<=(L.foldl (bV r) s).1
 | [],s,b,c,d=>⟨rfl,rfl,λ_=>rfl,λ_ _=>rfl,c,d⟩
 |x::L,s,b,c,d=>by
  rw[List.foldl_cons];have p:=jE (t:=x.1) (s:=r.size) (a:=r.align);by_cases q:s.1<bB r x.1
  ·have e:bV r s x=(bB r x.1,bU s.2 r (bB r x.1)):=if_pos q;rw[e];obtain⟨f,g,h,i,j,l⟩:=nS (k:=k) L (s:=(bB r x.1,bU s.2 r (bB r x.1))) (mZ c) (by show-1<=bB r x.1;unfold bB;omega);refine⟨f.trans ie.1,g.trans ie.2,λy=>(h y).trans jy,λy m=>(i y m).trans (lE m),?_,l⟩;rw[Z9,show b+(L.length+1)=b+1+L.length by omega];exact j
  ·have e:bV r s x=s:=if_neg q;rw[e];obtain⟨f,g,h,i,j,l⟩:=nS (k:=k) L c d;exact⟨f,g,h,i,λy z o=>by have:=j y z o;rw[Z9];omega,l⟩
def OO(X:SpV)(cs:List AV)(a:SpV)(v:AV):Prop:=∃r L,cs=[gR r,.fr L.length 2 (smp L)]/\L.length<=5000/\r.src≠r.dst/\(X.K r.src).isSome=true/\(X.K r.dst).isSome=true/\Bnd X 25000/\a=(sX r X L).2/\v= .tup []
def Xh:FuncId->EP:=bg 102 [] (aq 75 (iG 5 SpB U3) (cn 54 (tD eu) evP))
theorem Rw:aV Xh:=au (ag (aL az u9 wK) OF) (by kernel_rfl) (by kernel_rfl)
def alL (c:SpC) (r:Rl) (L:Smp) (i:Nat) (last:Int):AE×AH:=(mkE [(0,.ptr 0 (0)),(4,.ptr 5 (0)),(6,.si .i64 (last)),(10,.fr L.length 2 (smp L)),(11,.si .i64 ((L.length:Int))),(12,.si .i64 ((i:Int)))],mkH [(0,.cells [.map 1,aK c.px,aK c.pg] true),(1,c.m.O kT gE),(2,.sep (IxB.Q c.x c.px)),(3,.sep (GrB.Q c.g c.pg)),(4,.sep (aG (aN c.m.A))),(5,.cells (ruC r) true)])
theorem BR{c:SpC}{r:Rl}{L:Smp}{i:Nat}{last:Int}{p n:Nat}{σ:AE}{H:AH}(e:p<=6)(f:aj (pa 0) σ= .ptr 0 (0))(h:aj (pa 4) σ= .ptr 5 (0))(j:mk (aj (pa 6) σ)= .si .i64 (last))(a:aj (pa 10) σ= .fr L.length 2 (smp L))(b:mk (aj (pa 11) σ)= .si .i64 ((L.length:Int)))(d:mk (aj (pa 12) σ)= .si .i64 ((i:Int)))(k:H.get 0=some (.cells [.map 1,aK c.px,aK c.pg] true))(l:H.get 1=some (c.m.O kT gE))(o:H.get 2=some (.sep (IxB.Q c.x c.px)))(q:H.get 3=some (.sep (GrB.Q c.g c.pg)))(s:H.get 4=some (.sep (aG (aN c.m.A))))(t:H.get 5=some (.cells (ruC r) true)):Cov p σ H n ((alL c r L i last).1,(alL c r L i last).2,6):=
 Cov.ofA e ⟨.ptr (by decide) f,.ptr (by decide) h,.int j,ah.frE a,.int b,.int d,trivial⟩ ⟨.inl ⟨_,k,ao.refl rfl⟩,.inl ⟨_,l,ao.refl (bp eo uL)⟩,.inl ⟨_,o,ao.sep _⟩,.inl ⟨_,q,ao.sep _⟩,.inl ⟨_,s,ao.sep _⟩,.inl ⟨_,t,ao.refl rfl⟩,trivial⟩ rfl
theorem KV(X:SpV)(r:Rl)(L:Smp)(c:SpC)(E:bF X c)(R:L.length<=5000)(F:r.src≠r.dst)(G:(X.K r.src).isSome=true)(hd:(X.K r.dst).isSome=true)(H:Bnd X 25000):ax Xh 6 102 [.ptr 0 0,gR r,.fr L.length 2 (smp L)] (mkH (bM (spO c) 0)) 5 (gm SpB (sX r X L).2 (.tup [])):=by
 conv=>whnf
 refine aR.mk {w:Nat×SpC×Int//w.1<=L.length/\bF (sX r X (L.take w.1)).2 w.2.1/\w.2.2=(sX r X (L.take w.1)).1} 6 (λw=>alL w.val.2.1 r L w.val.1 w.val.2.2) (λw=>L.length-w.val.1) ⟨(0,c,-1),Y5 _,E,rfl⟩ ?_ ?_
 focus
  exact BR (c:=c) (r:=r) (L:=L) (i:=0) (last:= -1) (by decide) rfl rfl rfl rfl rfl rfl rfl rfl rfl rfl rfl rfl
 intro⟨(i,j,f),x,b,a⟩;have x:i<=L.length:=x;obtain⟨Z,l⟩:∃Z,Z=sX r X (L.take i):=⟨_,rfl⟩;have b:bF Z.2 j:=by rw[l];exact b
 have a:f=Z.1:=by rw[l];exact a
 obtain⟨I,J,t,M,A,N⟩:=nS (r:=r) (k:=r.src) (L.take i) (s:=(-1,X)) H (q2q _);have u:(L.take i).foldl (bV r) (-1,X)=Z:=by rw[l];rfl
 rw[u]at I J t M A N;have B:Bnd Z.2 30000:=λy z O=>Y7 (A y z O) (by rw[q0d];omega)
 have C:IntKind.i64.wrap ((i:Int)+1)=((i+1:Nat):Int):=by rw[ai (by omega) (by omega)];omega
 conv=>whnf
 refine ae.dec (λh=>?_) (λh=>?_)
 focus
  have m:i<L.length:=q0s.1 h;have n:L.length-(i+1)<L.length-i:=by omega
  have sub:=fO m rfl
  have g:=KT (r:=r) (X:=X) m;rw[<-l]at g;obtain⟨s,o⟩:=q0i.1 (show(Z.2.K r.src).isSome=true by rw[t];exact G);obtain⟨d,p⟩:=q0i.1 (show(Z.2.K r.dst).isSome=true by rw[t];exact hd);have ls:=B _ _ o;have P:=B _ _ p
  conv=>whnf
  refine Idx.mk i rfl m ?_
  conv=>whnf
  refine aw sub ?_
  conv=>whnf
  refine ae.dec (λz=>?_) (λz=>?_)
  focus
   have e:bV r Z L[i]=(bB r L[i].1,bU Z.2 r (bB r L[i].1)):=if_pos (by rw[<-a];exact z);rw[e]at g
   conv=>whnf
   refine⟨Z.2,[gR r,.si .i64 (bB r L[i].1)],bU Z.2 r (bB r L[i].1),.tup [],_,j,rfl,by decide,.cons .same (.cons .same .nil),b,ua rfl rfl rfl rfl rfl,⟨r,bB r L[i].1,s,d,rfl,o,p,ls,P,rfl,rfl⟩,λD v=>?_⟩
   conv=>whnf
   exact⟨⟨(i+1,D,bB r L[i].1),m,by rw[g];exact v,by rw[g]⟩,n,BR (c:=D) (r:=r) (L:=L) (i:=i+1) (last:=bB r L[i].1) (by decide) rfl rfl rfl rfl rfl (congrArg (AV.si .i64) C) rfl rfl rfl rfl rfl rfl⟩
  have e:bV r Z L[i]=Z:=if_neg (by rw[<-a];exact z);rw[e]at g
  conv=>whnf
  exact⟨⟨(i+1,j,f),m,by rw[g];exact b,by rw[g];exact a⟩,n,BR (c:=j) (r:=r) (L:=L) (i:=i+1) (last:=f) (by decide) rfl rfl rfl rfl rfl (congrArg (AV.si .i64) C) rfl rfl rfl rfl rfl rfl⟩
 have Q:i=L.length:=by have h:¬(i:Int)<(L.length:Int):=h;omega
 have q:bF (sX r X L).2 j:=by have:=b;rw[l,Q,q0l]at this;exact this
 conv=>whnf
 exact⟨_,j,.told rfl,q,bP rfl rfl rfl rfl rfl⟩
theorem IE:ak 102 (iG 5 SpB OO):=xT (ay Rw 6 _) (by kernel_rfl) SpB rfl (by decide) λX cs k v ⟨r,L,a,b,d,e,f,g,h,i⟩=>by
 subst a h i;exact⟨rfl,rfl,λc j=>KV X r L c j b d e f g⟩
def sY(X:SpV)(k:Tx)(e:cU):SpV:=fu X k {e with L:=aE e.L 0 1099511627776}
def lkF (X:SpV) (r:Rl):SpV×Int:=if(rlF X r).2≠0 then rlF X r else match(rlF X r).1.K r.dst,(rlF X r).1.K r.src with
 |some d,some s=>((sX r (sY (rlF X r).1 r.dst d) (bd 0 1099511627776 s.L)).2,0)
 |_,_=>rlF X r
def Vc(X:SpV)(cs:List AV)(a:SpV)(v:AV):Prop:=∃r Y,cs=[gR r]/\X.n<1000/\Bnd X 5000/\lkF X r=Y/\a=Y.1/\v= .si .i64 Y.2
def OP:DT:=[(4,[(some 0,[0]),(some 0,[12]),(some 0,[13]),(some 0,[14]),(some 0,[3]),(some 0,[16]),(some 0,[15,17]),(some 0,[18])]),
 (5,[(some 0,[0]),(some 0,[3]),(some 0,[0]),(some 0,[23]),(some 0,[24]),(some 0,[25]),(some 0,[3]),(some 0,[27]),(some 0,[26,28]),(some 0,[29]),(none,[30])])]
def Xi:FuncId->EP:=bg 48 OP (aq 38 (iG 5 SpB U9) (cn 21 (uP DV) (aq 100 zK (aq 102 (iG 5 SpB OO) evP))))
theorem Rx:aV Xi:=au (ag (aL (ag (ag az IE) BL) ON (Gm _)) Gl) (by kernel_rfl) (by kernel_rfl)
theorem Vd{X:SpV}{r:Rl}(h:(rlF X r).2=0):bk r=true/\(X.K r.src).isSome=true/\(X.K r.dst).isSome=true/\(rlF X r).1={m5 X r.dst (some r)with n:=X.n+1}:=by
 unfold rlF at*;split at h
 ·rename_i b;rw[if_pos b];split at h
  ·rename_i a;rw[if_pos a];split at h
   ·cases h
   ·rename_i c;rw[if_neg c];split at h
    ·cases h
    ·rename_i d;rw[if_neg d];exact⟨b,a.1,a.2,rfl⟩
  ·cases h
 ·cases h
theorem Gn(X:SpV)(r:Rl)(c:SpC)(hc:bF X c)(hn:X.n<1000)(N:Bnd X 5000){Y:SpV×Int}(h:lkF X r=Y):ax Xi 6 48 [.ptr 0 0,gR r] (mkH (bM (spO c) 0)) 5 (gm SpB Y.1 (.si .i64 Y.2)):=by
 obtain⟨Y1,Y2⟩:=Y;have l:=Vd (X:=X) (r:=r);unfold lkF at h;obtain⟨Z,W⟩:∃Z,Z=rlF X r:=⟨_,rfl⟩;rw[<-W]at h l;obtain⟨D,Z2⟩:=Z;dsimp only at h l
 conv=>whnf
 refine⟨X,[gR r],D,.si .i64 Z2,_,c,rfl,by decide,.cons .same .nil,hc,ua rfl rfl rfl rfl rfl,⟨r,_,rfl,hn,W.symm,rfl,rfl⟩,λf o=>?_⟩
 conv=>whnf
 refine ae.dk (λI=>?_) (λI=>?_)
 focus
  rw[if_pos I]at h;injection h with e1 e2;subst e1 e2
  conv=>whnf
  exact⟨_,f,.told rfl,o,bP rfl rfl rfl rfl rfl⟩
 rw[if_neg (λq=>q I)]at h;obtain⟨h1,h2,h3,h4⟩:=l I;have p:D.K=X.K:=by rw[h4];rfl
 obtain⟨s,hs⟩:=q0i.1 h2;obtain⟨d,hd⟩:=q0i.1 h3;have E:D.K r.src=some s:=by rw[p];exact hs
 have t:D.K r.dst=some d:=by rw[p];exact hd
 rw[E,t]at h;dsimp only at h;injection h with e1 e2;subst e1 e2;have F:=iH h1;have ls:=N _ _ hs;have ld:=N _ _ hd;obtain⟨J,P,Q,g2,a2,u2,q2⟩:=o.at1 t;obtain⟨j,u⟩:∃j,j=aE d.L 0 1099511627776:=⟨_,rfl⟩
 conv=>whnf
 refine Ask.mk _ (aZ (m:=f.m) (g:=gE) (k:=r.dst) bS ot rfl rfl rfl qi g2) ?_
 conv=>whnf
 refine⟨4,aN P,aN Q,J,d.S,d.L,0,1099511627776,j,_,rfl,by decide,by decide,rfl,congrArg (λx=>some (AO.sep (aG x))) q2,rfl,rfl,by omega,u.symm,rfl,λho=>?_⟩;obtain⟨M,k2,k3⟩:=o.x6 t g2 a2 u2 ho;obtain⟨v,w⟩:∃v,v=sY D r.dst d:=⟨_,rfl⟩;have b:fu D r.dst {d with S:=d.S,L:=j}=v:=by rw[w,u];rfl
 rw[b]at M;rw[<-w];obtain⟨e,i⟩:∃e:SpC,e={f with m:=f.m.put r.dst ⟨J,d.S,j,d.z⟩}:=⟨_,rfl⟩;rw[<-i]at M;have G:f.m.O kT gE=e.m.O kT gE:=by rw[i];exact k2.symm
 have B:aN P++cz J d.S j::aN Q=aN e.m.A:=by rw[i];exact k3.symm
 have a:f.px=e.px/\f.pg=e.pg/\f.x=e.x/\f.g=e.g:=by rw[i];exact⟨rfl,rfl,rfl,rfl⟩
 have H:v.K r.src=some s:=by rw[w];unfold sY;rw[c9,if_neg F];exact E
 have R:j.length<=5000:=by rw[u];exact Y7 (q0y _ _) ld
 have T:Bnd v 25000:=λx y C=>by
  rw[<-b,c9]at C;split at C
  ·injection C with C;subst C;exact Y7 R (by decide)
  ·rw[p]at C;exact Y7 (N x y C) (by decide)
 have U:(v.K r.dst).isSome=true:=by rw[<-b,c9,if_pos rfl];rfl
 obtain⟨p1,A1,A2,g1,a1,u1,q1⟩:=M.at1 H;have hO:(PM.set (some (.sep (aG (aN P++cz J d.S j::aN Q)))) aa (mkH (bM (spO f) 0)) 4).get 4=some (.sep (aG (aN e.m.A))):=congrArg (λx=>some (AO.sep (aG x))) B
 conv=>whnf
 refine Ask.mk _ (aZ (m:=e.m) (g:=gE) (k:=r.src) bS ot rfl rfl (congrArg some G) qi g1) ?_
 conv=>whnf
 refine⟨4,aN A1,aN A2,p1,s.S,s.L,bd 0 1099511627776 s.L,rfl,by decide,by decide,rfl,congrArg (λx=>some (AO.sep (aG x))) (B.trans q1),⟨_,_,0,1099511627776,rfl,rfl,rfl,rfl⟩,?_⟩
 conv=>whnf
 refine⟨v,[gR r,.fr (bd 0 1099511627776 s.L).length 2 (smp (bd 0 1099511627776 s.L))],_,.tup [],_,e,rfl,by decide,.cons .same (.cons .same .nil),M,ua ?_ (congrArg some G) ?_ ?_ (congrArg (λx=>some (AO.sep (aG x))) B),⟨r,bd 0 1099511627776 s.L,rfl,Y7 (q0y _ _) ls,F,by rw[H];rfl,U,T,rfl,rfl⟩,λc3 V=>?_⟩
 ·rw[<-a.1,<-a.2.1];exact rfl
 ·rw[<-a.1,<-a.2.2.1];exact rfl
 ·rw[<-a.2.1,<-a.2.2.2];exact rfl
 conv=>whnf
 exact⟨_,c3,.told rfl,V,bP rfl rfl rfl rfl rfl⟩
theorem Em:ak 48 (cX 5 SpB Vc):=gu Rx 6 (by kernel_rfl) SpB rfl (by decide) λX cs i v ⟨r,Y,a,b,d,e,f,g⟩=>by
 subst a f g;exact⟨rfl,rfl,λc h=>Gn X r c h b d e⟩
theorem Ve{R:Gr}{so:Rl->Bool}(l:(R.map Prod.fst).Nodup)(hd:∀e∈R,e.2.dst=e.1):((pkF R so).map Rl.dst).Nodup:=by
 have m:=ub (bj ((R.filter λe=>so e.2).map Prod.fst)).1;have n:=ub (bj ((R.filter λe=>so e.2).map λe=>e.2.src)).1
 have f:∀d∈aI ((R.filter λe=>so e.2).map Prod.fst),(rul R d).dst=d:=λd h=>by
  rw[(bj _).2,q0t]at h;obtain⟨e,j,rfl⟩:=h;have c:=fb l (show(e.1,e.2)∈R from(q1c.1 j).1);unfold rul;rw[c];exact hd e (q1c.1 j).1
 have o:∀s,(pkS (aI ((R.filter λe=>so e.2).map Prod.fst)) R s).map Rl.dst=(aI ((R.filter λe=>so e.2).map Prod.fst)).filter λd=>decide ((rul R d).src=s):=λs=>by
  unfold pkS;rw[q4q]
  conv=>rhs;rw[<-List.map_id (List.filter _ _)]
  exact q2y λd g=>f d (q1c.1 g).1
 unfold pkF;rw[List.map_flatMap];have p:(λs=>(pkS (aI ((R.filter λe=>so e.2).map Prod.fst)) R s).map Rl.dst)=λs=>(aI ((R.filter λe=>so e.2).map Prod.fst)).filter λd=>decide ((rul R d).src=s):=funext o
 rw[p];refine List.pairwise_flatMap.2 ⟨λs _=>m.filter _,n.imp λ{a b} i x r y t q=>?_⟩;subst q;have c:=(q1c.1 r).2;have k:=(q1c.1 t).2;simp only[decide_eq_true_eq]at c k;exact i (c.symm.trans k)
theorem bF.Xk{X:SpV}{c:SpC}(h:bF X c)(k:Tx):((ofX X k).map Rl.dst).Nodup:=by
 rw[<-h.of];exact Ve h.gk h.dst
theorem KY{X:SpV}{r:Rl}{t:Int}{e:cU}(h:(bU X r t).K r.dst=some e):∃d,X.K r.dst=some d/\e.L.length<=d.L.length+1:=by
 unfold bU at h;split at h
 ·rename_i s d b a;rw[c9,if_pos rfl]at h;injection h with h;subst h;refine⟨d,a,?_⟩;show(du r t s d).2.length<=_;unfold du;split
  ·exact q2n _
  ·split
   ·exact sL _ _ _ _ _
   ·exact Y7 (q0y _ _) (q2n _)
 ·exact⟨e,h,q2n _⟩
theorem En{r:Rl}:∀(L:Smp) {s:Int×SpV} {e:cU},((L.foldl (bV r) s).2.K r.dst=some e)->∃d,s.2.K r.dst=some d/\e.L.length<=d.L.length+L.length
 | [],s,e,h=>⟨e,h,Z3 _⟩
 |x::L,s,e,h=>by
  obtain⟨d,a,f⟩:=En L h;rw[Z9];unfold bV at a;split at a
  ·obtain⟨b,c,g⟩:=KY a;exact⟨b,c,by omega⟩
  ·exact⟨d,a,by omega⟩
def cu(gone:Smp)(X:SpV)(r:Rl):SpV:=(sX r X gone).2
theorem yd{gone:Smp}{b:Nat}:∀(a:List Rl) {X:SpV},(a.map Rl.dst).Nodup->(∀x e,X.K x=some e->e.L.length<=b+gone.length/\(x∈a.map Rl.dst->e.L.length<=b))->(a.foldl (cu gone) X).R=X.R/\(a.foldl (cu gone) X).n=X.n/\(∀x,((a.foldl (cu gone) X).K x).isSome=(X.K x).isSome)/\(∀x,x∉a.map Rl.dst->(a.foldl (cu gone) X).K x=X.K x)/\Bnd (a.foldl (cu gone) X) (b+gone.length)
 | [],X,_,h=>⟨rfl,rfl,λ_=>rfl,λ_ _=>rfl,λx e c=>(h x e c).1⟩
 |r::a,X,nd,h=>by
  rw[q1p,q2s]at nd;obtain⟨m,o,p,i,_,_⟩:=nS (r:=r) (k:=r.src) gone (s:=(-1,X)) (b:=b+gone.length) (λx e c=>(h x e c).1) (q2q _)
  have t:∀x e,(cu gone X r).K x=some e->e.L.length<=b+gone.length/\(x∈a.map Rl.dst->e.L.length<=b):=λx e c=>by
   by_cases q:x=r.dst
   ·subst q;obtain⟨d,f,j⟩:=En gone c;have:=(h _ d f).2 (by simp);exact⟨by omega,λq=>absurd q nd.1⟩
   ·have g:X.K x=some e:=(i x q).symm.trans c;obtain⟨f,j⟩:=h x e g;exact⟨f,λu=>j (by rw[q1p];exact Y4 _ u)⟩
  obtain⟨v,w,y,z,A⟩:=yd a nd.2 t;exact⟨v.trans m,w.trans o,λx=>(y x).trans (p x),λx l=>(z x λq=>l (by rw[q1p];exact Y4 _ q)).trans (i x λq=>l (by rw[q];simp)),A⟩
def pD (X:SpV) (k:Tx) (a b:Int):SpV×Int×Int:=if dI X k≠0 then(X,0,dI X k)else match X.K k with
 |none=>(X,0,5)
 |some e=>((ofX X k).foldl (cu (bd a b e.L)) (fu X k {e with L:=aE e.L a b}),((e.L.length-(aE e.L a b).length:Nat):Int),0)
def BS(X:SpV)(cs:List AV)(c:SpV)(u:AV):Prop:=∃k a b Y,cs=[.ss k,.si .i64 a,.si .i64 b]/\Links X/\Bnd X 5000/\pD X k a b=Y/\c=Y.1/\u= .tup [.si .i64 Y.2.1,.si .i64 Y.2.2]
def Xl:FuncId->EP:=bg 44 [] (bg 101 [] (bg 73 [] (aq 133 (eg 2 GrB On) (aq 61 (iG 5 SpB Rh) (cn 21 (uP DV) (aq 100 zK (aq 102 (iG 5 SpB OO) evP)))))))
theorem Ry:aV Xl:=au (au (au (ag (ag (aL (ag (ag az IE) BL) ON (Gm _)) BJ) Oo) (by kernel_rfl) (by kernel_rfl)) (by kernel_rfl) (by kernel_rfl)) (by kernel_rfl) (by kernel_rfl)
def dlL (c:SpC) (gone:Smp) (L:List Rl) (j:Nat):AE×AH:=(mkE [(2,AV.fn 101 [] [.ptr 5 0,.ptr 11 0]),(13,.fr L.length 5 (ruL L)),(14,.si .i64 ((L.length:Int))),(15,.si .i64 ((j:Int)))],mkH [(0,.cells [.map 1,aK c.px,aK c.pg] true),(1,c.m.O kT gE),(2,.sep (IxB.Q c.x c.px)),(3,.sep (GrB.Q c.g c.pg)),(4,.sep (aG (aN c.m.A))),(5,.cells [.ptr 0 0] true),(11,.cells [.fr gone.length 2 (smp gone)] true)])
theorem IF{c:SpC}{gone:Smp}{L:List Rl}{j:Nat}{p n:Nat}{σ:AE}{H:AH}(h:p<=17)(i:ah H 17 (λb=>b) (aj (pa 2) σ) (AV.fn 101 [] [.ptr 5 0,.ptr 11 0]))(a:aj (pa 13) σ= .fr L.length 5 (ruL L))(d:mk (aj (pa 14) σ)= .si .i64 ((L.length:Int)))(e:mk (aj (pa 15) σ)= .si .i64 ((j:Int)))(k:H.get 0=some (.cells [.map 1,aK c.px,aK c.pg] true))(l:H.get 1=some (c.m.O kT gE))(o:H.get 2=some (.sep (IxB.Q c.x c.px)))(q:H.get 3=some (.sep (GrB.Q c.g c.pg)))(r:H.get 4=some (.sep (aG (aN c.m.A))))(s:H.get 5=some (.cells [.ptr 0 0] true))(f:H.get 11=some (.cells [.fr gone.length 2 (smp gone)] true)):Cov p σ H n ((dlL c gone L j).1,(dlL c gone L j).2,17):=
 Cov.ofA h ⟨i,ah.frE a,.int d,.int e,trivial⟩ ⟨.inl ⟨_,k,ao.refl rfl⟩,.inl ⟨_,l,ao.refl (bp eo uL)⟩,.inl ⟨_,o,ao.sep _⟩,.inl ⟨_,q,ao.sep _⟩,.inl ⟨_,r,ao.sep _⟩,.inl ⟨_,s,ao.refl rfl⟩,.inl ⟨_,f,ao.refl rfl⟩,trivial⟩ rfl
theorem KZ(X:SpV)(k:Tx)(a b:Int)(c:SpC)(hc:bF X c)(hl:Links X)(hb:Bnd X 5000){Y:SpV×Int×Int}(E:pD X k a b=Y):ax Xl 6 44 [.ptr 0 0,.ss k,.si .i64 a,.si .i64 b] (mkH (bM (spO c) 0)) 5 (gm SpB Y.1 (.tup [.si .i64 Y.2.1,.si .i64 Y.2.2])):=by
 obtain⟨Y1,Y2,Y3⟩:=Y
 conv=>whnf
 refine⟨X,[.ss k],X,_,_,c,rfl,by decide,.cons .same .nil,hc,ua rfl rfl rfl rfl rfl,⟨k,rfl,rfl,rfl⟩,λi f=>?_⟩
 conv=>whnf
 refine ae.dk (λF=>?_) (λF=>?_)
 focus
  unfold pD at E;rw[if_pos F]at E;injection E with e1 e2;injection e2 with e2 e3;subst e1 e2 e3
  conv=>whnf
  exact⟨_,i,.told rfl,f,bP rfl rfl rfl rfl rfl⟩
 have F:dI X k=0:=F;unfold pD at E;rw[if_neg (by rw[F];exact λq=>q rfl)]at E
 have hK:(X.K k).isSome=true:=by
  unfold dI at F;by_cases q:(X.K k).isSome=true
  ·exact q
  ·rw[if_neg q]at F;cases F
 obtain⟨e,N⟩:=q0i.1 hK;rw[N]at E;dsimp only at E;injection E with e1 e2;injection e2 with e2 e3;obtain⟨P,A1,A2,g1,a1,u1,q1⟩:=f.at1 N;have hL:=hb k e N;obtain⟨gone,I⟩:∃gone,gone=bd a b e.L:=⟨_,rfl⟩;obtain⟨G,u⟩:∃G,G=aE e.L a b:=⟨_,rfl⟩;have hgl:gone.length<=5000:=by rw[I];exact Y7 (q0y _ _) hL
 have hLl:G.length<=5000:=by rw[u];exact Y7 (q0y _ _) hL
 rw[<-I,<-u]at e1;rw[<-u]at e2
 conv=>whnf
 refine Ask.mk _ (aZ (m:=i.m) (g:=gE) (k:=k) bS ot rfl rfl rfl qi g1) ?_
 conv=>whnf
 refine⟨4,aN A1,aN A2,P,e.S,e.L,gone,rfl,by decide,by decide,rfl,congrArg (λx=>some (AO.sep (aG x))) q1,⟨_,_,a,b,rfl,rfl,rfl,I⟩,?_⟩
 conv=>whnf
 refine Ask.mk _ (aZ (m:=i.m) (g:=gE) (k:=k) bS ot rfl rfl rfl qi g1) ?_
 conv=>whnf
 refine⟨4,aN A1,aN A2,P,e.S,e.L,a,b,G,_,rfl,by decide,by decide,rfl,congrArg (λx=>some (AO.sep (aG x))) q1,rfl,rfl,by omega,u.symm,rfl,λho=>?_⟩;obtain⟨k1,k2,k3⟩:=f.x6 N g1 a1 u1 ho;obtain⟨d,o⟩:∃d,d=ofX X k:=⟨_,rfl⟩;have hR1:ofG i.g k=d:=by rw[o];exact f.of k
 have hnd:(d.map Rl.dst).Nodup:=by rw[o];exact f.Xk k
 rw[<-o]at e1
 have Q:∀r∈d,k≠r.dst/\X.R r.dst=some r/\r.src=k/\r.src≠r.dst:=λr M=>by
  rw[o]at M;obtain⟨m1,T⟩:=f.mq.1 M;have:=iH (f.rul _ _ m1);exact⟨λq=>this (T.trans q),m1,T,this⟩
 have hlen:d.length<=1000:=by rw[o];exact f.OG k
 have hgg:i.g.length<=1000:=Y7 f.gl f.n9;obtain⟨s,v⟩:∃s,s=fu X k {e with L:=G}:=⟨_,rfl⟩;have k1:bF s {i with m:=i.m.put k ⟨P,e.S,G,e.z⟩}:=by rw[v];exact k1
 rw[<-v]at e1
 have U:Bnd s 5000:=λx y p=>by
  rw[v,c9]at p;split at p
  ·injection p with p;subst p;exact hLl
  ·exact hb x y p
 have V:∀x,(s.K x).isSome=(X.K x).isSome:=λx=>by
  rw[v,c9];by_cases q:x=k
  ·subst q;rw[if_pos rfl,N];rfl
  ·rw[if_neg q]
 obtain⟨t,B⟩:∃t:SpC,t={i with m:=i.m.put k ⟨P,e.S,G,e.z⟩}:=⟨_,rfl⟩;have k2':i.m.O kT gE=t.m.O kT gE:=by rw[B];exact k2.symm
 have k3':aN A1++cz P e.S G::aN A2=aN t.m.A:=by rw[B];exact k3.symm
 have n:t.px=i.px/\t.pg=i.pg/\t.x=i.x/\t.g=i.g:=by rw[B];exact⟨rfl,rfl,rfl,rfl⟩
 rw[<-B]at k1;subst e1 e2 e3
 conv=>whnf
 refine⟨3,i.pg,i.g,[.ss k],.fr d.length 5 (ruL d),rfl,by decide,by decide,.cons .same .nil,rfl,rfl,⟨k,rfl,hgg,by rw[hR1]⟩,?_⟩
 conv=>whnf
 refine aR.mk {w:Nat×SpC//w.1<=d.length/\bF ((d.take w.1).foldl (cu gone) s) w.2} 17 (λw=>dlL w.val.2 gone d w.val.1) (λw=>d.length-w.val.1) ⟨(0,t),Y5 _,k1⟩ ?_ ?_
 focus
  refine IF (c:=t) (gone:=gone) (L:=d) (j:=0) ?_ ?_ ?_ ?_ ?_ ?_ ?_ ?_ ?_ ?_ ?_ ?_
  ·exact Z3 17
  ·exact ah.dj (k:=17) rfl rfl (Z3 17) (λ_ _=>rfl)
  ·exact rfl
  ·exact rfl
  ·exact rfl
  ·rw[n.1,n.2.1];exact rfl
  ·exact congrArg some k2'
  ·rw[n.1,n.2.2.1];exact rfl
  ·rw[n.2.1,n.2.2.2];exact rfl
  ·exact congrArg (λx=>some (AO.sep (aG x))) k3'
  ·exact rfl
  ·exact rfl
 intro⟨(j,c3),hj,C⟩;have hj:j<=d.length:=hj;obtain⟨H,D⟩:∃H,H=(d.take j).foldl (cu gone) s:=⟨_,rfl⟩;have C:bF H c3:=by rw[D];exact C
 have hw:IntKind.i64.wrap ((j:Int)+1)=((j+1:Nat):Int):=by rw[ai (by omega) (by omega)];omega
 have ndj:((d.take j).map Rl.dst).Nodup:=by rw[q4i];exact hnd.sublist (q4m _ _)
 obtain⟨f1,f2,f3,f4,f5⟩:=yd (gone:=gone) (b:=5000) (d.take j) (X:=s) ndj λx y p=>⟨Y7 (U x y p) (q0q _ _),λ_=>U x y p⟩
 rw[<-D]at f1 f2 f3 f4 f5;have hB3:Bnd H 25000:=λx y p=>Y7 (f5 x y p) (by omega)
 conv=>whnf
 refine ae.dec (λh=>?_) (λh=>?_)
 focus
  have W:j<d.length:=q0s.1 h;have hlt:d.length-(j+1)<d.length-j:=by omega
  obtain⟨r,M⟩:∃r,r=d[j]:=⟨_,rfl⟩;have sub:bl (ruL d) (j*5) 5=some (ruC r):=by rw[M];exact vp W rfl
  obtain⟨m1,T,m3,m4⟩:=Q r (by rw[M];exact q0g W)
  have J:(d.take (j+1)).foldl (cu gone) s=(sX r H gone).2:=by
   rw[Y8 W,q3k,<-D,<-M];rfl
  have hS:(H.K r.src).isSome=true:=by rw[f3,V];exact(hl _ _ T).1
  have hD:(H.K r.dst).isSome=true:=by rw[f3,V];exact(hl _ _ T).2
  conv=>whnf
  refine Idx.mk j rfl W ?_
  conv=>whnf
  refine aw sub ?_
  conv=>whnf
  refine⟨H,[gR r,.fr gone.length 2 (smp gone)],_,.tup [],_,c3,rfl,by decide,.cons .same (.cons .same .nil),C,ua rfl rfl rfl rfl rfl,⟨r,gone,rfl,hgl,m4,hS,hD,hB3,rfl,rfl⟩,λc5 hc5=>?_⟩
  conv=>whnf
  exact⟨⟨(j+1,c5),W,by rw[J];exact hc5⟩,hlt,IF (c:=c5) (gone:=gone) (L:=d) (j:=j+1) (Z3 17) (ah.dj (k:=17) rfl rfl (Z3 17) (λ_ _=>rfl)) rfl rfl (congrArg (AV.si .i64) hw) rfl rfl rfl rfl rfl rfl rfl⟩
 have ej:j=d.length:=by have h:¬(j:Int)<(d.length:Int):=h;omega
 have Z:bF (d.foldl (cu gone) s) c3:=by rw[<-q0l (l:=d),<-ej,<-D];exact C
 conv=>whnf
 exact⟨_,c3,.told rfl,Z,bP rfl rfl rfl rfl rfl⟩
theorem IG:ak 44 (cX 5 SpB BS):=gu Ry 6 (by kernel_rfl) SpB rfl (by decide) λX cs l u ⟨k,a,b,Y,d,e,f,g,h,i⟩=>by
 subst d h i;exact⟨rfl,rfl,λc j=>KZ X k a b c j e f g⟩
def nT(a b:Int):Int×Int:=if qu a b=true then(0,9)else(IntKind.i64.wrap (a+b),0)
def Xm(cs:List AV)(v:AV):Prop:=∃a b,cs=[.si .i64 a,.si .i64 b]/\v= .tup [.si .i64 (nT a b).1,.si .i64 (nT a b).2]
theorem Yv:ak 23 (db Xm):=zE (ay az 2 _) (by kernel_rfl) λcs v ⟨a,b,k,l⟩=>by
 subst k l;refine⟨rfl,rfl,?_⟩;have e:qu a b=true->nT a b=(0,9):=λq=>if_pos q
 have f:qu a b=false->nT a b=(IntKind.i64.wrap (a+b),0):=λq=>if_neg (by rw[q];simp)
 have m:0<=b->IntKind.i64.wrap (a+b)<a->qu a b=true:=λp q=>decide_eq_true (.inl ⟨p,q⟩)
 have n:b<0->a<IntKind.i64.wrap (a+b)->qu a b=true:=λp q=>decide_eq_true (.inr ⟨p,q⟩)
 have g:(0<=b->¬IntKind.i64.wrap (a+b)<a)->(b<0->¬a<IntKind.i64.wrap (a+b))->qu a b=false:=λp q=>decide_eq_false λh=>h.elim (λh=>p h.1 h.2) (λh=>q h.1 h.2)
 have i:qu a b=true->dG (.tup [.si .i64 (nT a b).1,.si .i64 (nT a b).2]) (.tup [.int .i64 0,.int .i64 9]) .nil 0:=λq=>dG.told (by rw[e q];rfl)
 have j:qu a b=false->dG (.tup [.si .i64 (nT a b).1,.si .i64 (nT a b).2]) (.tup [.si .i64 (IntKind.i64.wrap (a+b)),.int .i64 0]) .nil 0:=λq=>dG.told (by rw[f q];rfl)
 clear e f
 conv=>whnf
 refine ae.dec (λd=>?_) (λd=>?_)
 ·conv=>whnf
  refine ae.dec (λz2=>?_) (λz2=>?_)
  ·have q:=i (m d z2)
   conv=>whnf
   exact q
  ·have q:=j (g (λ_=>z2) (λz=>by omega))
   conv=>whnf
   refine ae.dec (λc=>?_) (λc=>?_)
   ·exact absurd c (by omega)
   ·conv=>whnf
    exact q
 ·conv=>whnf
  refine ae.dec (λc=>?_) (λc=>?_)
  ·conv=>whnf
   refine ae.dec (λz2=>?_) (λz2=>?_)
   ·have q:=i (n c z2)
    conv=>whnf
    exact q
   ·have q:=j (g (λz=>absurd z d) (λ_=>z2))
    conv=>whnf
    exact q
  ·exact absurd c (by omega)
theorem K0(a b:Int):aQ (nT a b).1:=by
 unfold nT;split
 ·exact⟨by decide,by decide⟩
 ·exact qb _
def pE (X:SpV) (k:Tx) (t y:Int):SpV×Int×Int:=if dI X k≠0 then(X,0,dI X k)else match X.K k with
 |none=>(X,0,5)
 |some e=>if t<0∨1099511627776<=t then(X,0,1)else if 0<(e.L.length:Int)/\t<tAt e.L (e.L.length-1)then(X,0,7)
  else if(nT (vAt e.L (e.L.length-1)) y).2≠0 then(X,0,(nT (vAt e.L (e.L.length-1)) y).2)
  else if(jc X k t (nT (vAt e.L (e.L.length-1)) y).1 3).2≠0 then((jc X k t (nT (vAt e.L (e.L.length-1)) y).1 3).1,0,(jc X k t (nT (vAt e.L (e.L.length-1)) y).1 3).2)
  else((jc X k t (nT (vAt e.L (e.L.length-1)) y).1 3).1,(nT (vAt e.L (e.L.length-1)) y).1,0)
def OQ(X:SpV)(cs:List AV)(a:SpV)(u:AV):Prop:=∃k t y Y,cs=[.ss k,.si .i64 t,.si .i64 y]/\Links X/\Bnd X 20000/\pE X k t y=Y/\a=Y.1/\u= .tup [.si .i64 Y.2.1,.si .i64 Y.2.2]
def Xn:FuncId->EP:=bg 19 [] (aq 61 (iG 5 SpB Rh) (aq 32 (iG 5 SpB qe) (aq 18 (mX Uo) (aq 23 (db Xm) evP))))
theorem Rz:aV Xn:=au (ag (ag (ag (ag az Yv) Xc) Ro) BJ) (by kernel_rfl) (by kernel_rfl)
theorem Gp(X:SpV)(k:Tx)(t y:Int)(c:SpC)(Q:bF X c)(F:Links X)(z:Bnd X 20000){Y:SpV×Int×Int}(a:pE X k t y=Y):ax Xn 6 19 [.ptr 0 0,.ss k,.si .i64 t,.si .i64 y] (mkH (bM (spO c) 0)) 5 (gm SpB Y.1 (.tup [.si .i64 Y.2.1,.si .i64 Y.2.2])):=by
 obtain⟨G,I,J⟩:=Y
 conv=>whnf
 refine⟨X,[.ss k],X,_,_,c,rfl,by decide,.cons .same .nil,Q,ua rfl rfl rfl rfl rfl,⟨k,rfl,rfl,rfl⟩,λv b=>?_⟩
 conv=>whnf
 refine ae.dk (λh=>?_) (λh=>?_)
 focus
  unfold pE at a;rw[if_pos h]at a;injection a with e1 e2;injection e2 with e2 e3;subst e1 e2 e3
  conv=>whnf
  exact⟨_,v,.told rfl,b,bP rfl rfl rfl rfl rfl⟩
 have h:dI X k=0:=h;unfold pE at a;rw[if_neg (by rw[h];exact λq=>q rfl)]at a
 have R:(X.K k).isSome=true:=by
  unfold dI at h;by_cases q:(X.K k).isSome=true
  ·exact q
  ·rw[if_neg q]at h;cases h
 obtain⟨e,A⟩:=q0i.1 R;rw[A]at a;dsimp only at a;obtain⟨T,U,V,Z,a1,u1,q1⟩:=b.at1 A;have hL:=z k e A;obtain⟨lt,p⟩:∃lt,lt=tAt e.L (e.L.length-1):=⟨_,rfl⟩;obtain⟨o,r⟩:∃o,o=vAt e.L (e.L.length-1):=⟨_,rfl⟩;have i:sI e.L= .tup [.agg [.si .i64 lt,.si .i64 o],.sb (decide ((0:Int)<(e.L.length:Int)))]:=by rw[p,r];rfl
 rw[<-p,<-r]at a;obtain⟨P,w⟩:∃P,P=nT o y:=⟨_,rfl⟩;have d:aQ P.1:=by rw[w];exact K0 _ _
 rw[<-w]at a;obtain⟨s,P2⟩:=P;dsimp only at a d;obtain⟨W,B⟩:∃W,W=jc X k t s 3:=⟨_,rfl⟩;rw[<-B]at a;obtain⟨M,N⟩:=W;dsimp only at a;have fin:∀{u H n O},bF G O->mkT u=mkT (.tup [.si .i64 I,.si .i64 J])->yA H 5 (spO O) 0->gm SpB G (.tup [.si .i64 I,.si .i64 J]) u H n:=λh1 h2 h3=>⟨_,_,.told h2,h1,h3⟩
 conv=>whnf
 refine Ask.mk _ (aZ (m:=v.m) (g:=gE) (k:=k) bS ot rfl rfl rfl qi Z) ?_
 conv=>whnf
 refine⟨4,aN U,aN V,T,e.S,e.L,_,rfl,by decide,by decide,rfl,congrArg (λx=>some (AO.sep (aG x))) q1,⟨rfl,i.symm⟩,?_⟩
 conv=>whnf
 refine ae.dec (λz2=>?_) (λz2=>?_)
 focus
  rw[if_pos (.inl z2)]at a;injection a with e1 e2;injection e2 with e2 e3;subst e1 e2 e3
  conv=>whnf
  exact fin b rfl (bP rfl rfl rfl rfl rfl)
 conv=>whnf
 refine ae.dec (λC=>?_) (λC=>?_)
 focus
  rw[if_pos (.inr C)]at a;injection a with e1 e2;injection e2 with e2 e3;subst e1 e2 e3
  conv=>whnf
  exact fin b rfl (bP rfl rfl rfl rfl rfl)
 rw[if_neg (λq=>q.elim z2 C)]at a
 conv=>whnf
 refine ae.dec (λD=>?_) (λD=>?_)
 focus
  conv=>whnf
  refine ae.dec (λE=>?_) (λE=>?_)
  focus
   rw[if_pos ⟨D,E⟩]at a;injection a with e1 e2;injection e2 with e2 e3;subst e1 e2 e3
   conv=>whnf
   exact fin b rfl (bP rfl rfl rfl rfl rfl)
  rw[if_neg (λq=>E q.2)]at a
  conv=>whnf
  refine⟨_,_,_,.cons .same (.cons .same .nil),⟨o,y,rfl,by rw[<-w]⟩,?_⟩
  conv=>whnf
  refine ae.dk (λj=>?_) (λj=>?_)
  focus
   rw[if_pos j]at a;injection a with e1 e2;injection e2 with e2 e3;subst e1 e2 e3
   conv=>whnf
   exact fin b rfl (bP rfl rfl rfl rfl rfl)
  rw[if_neg (λq=>q j)]at a
  conv=>whnf
  refine⟨X,[.ss k,.agg [.si .i64 t,.si .i64 s],.si .i64 3],M,.si .i64 N,_,v,rfl,by decide,.cons .same (.cons .same (.cons (.told rfl) .nil)),b,ua rfl rfl rfl rfl rfl,⟨k,t,s,3,_,rfl,d,F,z,B.symm,rfl,rfl⟩,λc2 f=>?_⟩
  conv=>whnf
  refine ae.dk (λl=>?_) (λl=>?_)
  focus
   rw[if_pos l]at a;injection a with e1 e2;injection e2 with e2 e3;subst e1 e2 e3
   conv=>whnf
   exact fin f rfl (bP rfl rfl rfl rfl rfl)
  rw[if_neg (λq=>q l)]at a;injection a with e1 e2;injection e2 with e2 e3;subst e1 e2 e3
  conv=>whnf
  exact fin f rfl (bP rfl rfl rfl rfl rfl)
 rw[if_neg (λq=>D q.1)]at a
 conv=>whnf
 refine⟨_,_,_,.cons .same (.cons .same .nil),⟨o,y,rfl,by rw[<-w]⟩,?_⟩
 conv=>whnf
 refine ae.dk (λj=>?_) (λj=>?_)
 focus
  rw[if_pos j]at a;injection a with e1 e2;injection e2 with e2 e3;subst e1 e2 e3
  conv=>whnf
  exact fin b rfl (bP rfl rfl rfl rfl rfl)
 rw[if_neg (λq=>q j)]at a
 conv=>whnf
 refine⟨X,[.ss k,.agg [.si .i64 t,.si .i64 s],.si .i64 3],M,.si .i64 N,_,v,rfl,by decide,.cons .same (.cons .same (.cons (.told rfl) .nil)),b,ua rfl rfl rfl rfl rfl,⟨k,t,s,3,_,rfl,d,F,z,B.symm,rfl,rfl⟩,λc2 f=>?_⟩
 conv=>whnf
 refine ae.dk (λl=>?_) (λl=>?_)
 focus
  rw[if_pos l]at a;injection a with e1 e2;injection e2 with e2 e3;subst e1 e2 e3
  conv=>whnf
  exact fin f rfl (bP rfl rfl rfl rfl rfl)
 rw[if_neg (λq=>q l)]at a;injection a with e1 e2;injection e2 with e2 e3;subst e1 e2 e3
 conv=>whnf
 exact fin f rfl (bP rfl rfl rfl rfl rfl)
theorem Eo:ak 19 (cX 5 SpB OQ):=gu Rz 6 (by kernel_rfl) SpB rfl (by decide) λX cs i u ⟨k,t,y,Y,a,b,d,e,f,g⟩=>by
 subst a f g;exact⟨rfl,rfl,λc h=>Gp X k t y c h b d e⟩
def SK(f g:List AV->AH->Nat->PK->Prop)(args:List AV)(H:AH)(n:Nat)(κ:PK):Prop:=f args H n κ∨g args H n κ
theorem ak.or{f:FuncId}{r s:List AV->AH->Nat->PK->Prop}(b:ak f r)(c:ak f s):ak f (SK r s):=λargs H n a d=>d.elim (b args H n a) (c args H n a)
def Xo(cs:List AV)(v:AV):Prop:=cs=[.nil]/\v= .nil
theorem RA:ak 58 (db Xo):=zE (ay HY 4 _) (by kernel_rfl) λcs v ⟨a,b⟩=>by
 subst a b;refine⟨rfl,rfl,?_⟩
 conv=>whnf
 exact dG.told rfl
theorem Vf{H:AH}{n j:Nat}{c:SpC}{Q:HP}{u v:AV}(t:5<=j)(i:H.get 0=some (.cells [.map 1,aK c.px,aK c.pg] true))(l:H.get 1=some (c.m.O kT gE))(o:H.get 2=some (.sep (IxB.Q c.x c.px)))(p:H.get 3=some (.sep (GrB.Q c.g c.pg)))(q:H.get 4=some (.sep (aG (aN c.m.A))))(r:H.get j=some (.sep Q))(s:ah H 6 (λb=>if b=5 then j else b) u v):Cov 5 (mkE [(0,u)]) H n (mkE [(0,v)],mkH (bM (spO c++ [.sep Q]) 0),6):=by
 have f:∀b,b<5->(if b=5 then j else b)=b:=λb d=>if_neg (by omega)
 refine Cov.ofR (λb=>if b=5 then j else b) (by decide) f (λx a=>?_) (λx a=>?_) (λx a y h e=>?_)
 ·simp only[Z4,Z5,or_false]at a;subst a;exact s
 ·simp only[bM,spO,q1y,q2h,Z4,Z5,or_false]at a;rcases a with rfl|rfl|rfl|rfl|rfl|rfl
  ·exact⟨Z0 rfl,.inl ⟨_,i,ao.cm (k:=2) rfl (by decide) (λb d=>f b (by omega))⟩⟩
  ·exact⟨Z0 rfl,.inl ⟨_,l,ao.cm (k:=0) (bp eo uL) (by decide) (λb d=>absurd d (q0n b))⟩⟩
  ·exact⟨Z0 rfl,.inl ⟨_,o,ao.sep _⟩⟩
  ·exact⟨Z0 rfl,.inl ⟨_,p,ao.sep _⟩⟩
  ·exact⟨Z0 rfl,.inl ⟨_,q,ao.sep _⟩⟩
  ·exact⟨Z0 rfl,.inl ⟨_,r,ao.sep _⟩⟩
 ·simp only[bM,spO,q1y,q2h,Z4,Z5,or_false]at a h;rcases a with rfl|rfl|rfl|rfl|rfl|rfl<;>rcases h with rfl|rfl|rfl|rfl|rfl|rfl<;>simp at e⊢<;>omega
theorem RB{X:SpV}{c:SpC}{u v:AV}{H:AH}{n:Nat}{P:AV->List AO->Prop}(m:P v [])(l:gT v=true)(h:gm SpB X v u H n):Uz SpB 5 X P u H n:=by
 obtain⟨K,p,s,w,x⟩:=h;refine⟨v,[],p,m,w,(iZ (r:=λb=>b) l).2,λo ho=>(by cases ho),by decide,?_⟩;rw[q1d];intro A B C D E F;obtain⟨G,f,g,i⟩:=s A B C (D 0) E (F 0 u rfl);obtain⟨j,d,k⟩:=BB g x (by rw[SpB.len];exact Z3 _);refine⟨j,⟨λy q I e=>d.1 y q I (f.b y q e),λq e=>d.2.1 q (f.z q e),λq e=>f.y q (d.2.2 q e)⟩,k,λt a J=>?_⟩;have:=nD J;simp only[Z4,Z5,or_false]at this;injection this with e1 e2;subst e1 e2;exact nM d.2.1 l i
def Yw(o:Option cU)(v:AV)(E:List AO):Prop:=match o with
 |none=>v= .nil/\E=[]
 |some e=>∃p,v=aK p/\E=[.sep (cz p e.S e.L)]
def Xp(X:SpV)(cs:List AV)(a:SpV)(P:AV->List AO->Prop):Prop:=∃k,cs=[.ss k]/\a=X/\P=Yw (X.K k)
def Yx:FuncId->EP:=bg 16 [] (aq 58 (SK (db Xo) OB) evP)
theorem RC:aV Yx:=au (ag az (RA.or OC)) (by kernel_rfl) (by kernel_rfl)
theorem Gq:ak 16 (N2 5 SpB Xp):=N3 (ay RC 5 _) (by kernel_rfl) SpB rfl (by decide) λX cs h P ⟨k,i,l,n⟩=>by
 subst i l n;refine⟨rfl,λc a=>?_⟩;cases f:h.K k with
 |none=>
  have b:=a.no1 f
  conv=>whnf
  refine Ask.mk _ (aZ (m:=c.m) (g:=gE) (k:=k) bS ot rfl rfl rfl qi b) ?_
  conv=>whnf
  refine .inl ⟨_,_,_,.cons .same .nil,⟨rfl,rfl⟩,?_⟩
  conv=>whnf
  exact RB (c:=c) (v:= .nil) ⟨rfl,rfl⟩ rfl ⟨_,c,.told rfl,a,bP rfl rfl rfl rfl rfl⟩
 |some e=>
  obtain⟨p,q,r,b,t,u,s⟩:=a.at1 f
  conv=>whnf
  refine Ask.mk _ (aZ (m:=c.m) (g:=gE) (k:=k) bS ot rfl rfl rfl qi b) ?_
  conv=>whnf
  refine .inr ⟨4,aN q,aN r,p,e.S,e.L,rfl,by decide,by decide,rfl,congrArg (λx=>some (AO.sep (aG x))) s,λd=>?_⟩
  conv=>whnf
  refine⟨aK d,[.sep (cz d e.S e.L)],c,⟨d,rfl,rfl⟩,a,rfl,λo ho=>?_,Z0 rfl,Vf (j:=6) (by decide) rfl rfl rfl rfl rfl rfl (ah.aK rfl)⟩;simp only[Z4,Z5,or_false]at ho;subst ho;exact⟨rfl,rfl⟩
def Xq(o:Option cU):AV:=match o with
 |none=> .tup [.agg [.int .i64 0,.int .i64 0,.int .i64 0,.nsl],.sb false]
 |some e=> .tup [Gk e.z e.S.ret e.S.pol e.lab,.sb true]
def Xr(X:SpV)(cs:List AV)(v:AV):Prop:=∃k,cs=[.ss k]/\v=Xq (X.K k)
def RD:DT:=[(4,[(some 0,[6]),(some 0,[25]),(some 0,[6]),(some 0,[27]),(none,[28]),(some 1,[6]),(some 2,[30]),(none,[31]),(some 4,[0]),(some 5,[33]),(some 6,[34]),(some 7,[35]),(some 8,[1]),(none,[36,37]),(some 0,[26,29,32,38]),(none,[4,39])])]
def Yy:FuncId->EP:=bg 35 RD (cn 84 (eg 4 IxB Kv) (cn 87 (eg 4 IxB WX) (cn 85 (mX Um) (cn 86 (mX Un) evP))))
theorem RE:aV Yy:=au (aL (aL (aL (aL az Xb (BK _)) Xa (BK _)) Q6 (F3 _ _ _)) sT (F3 _ _ _)) (by kernel_rfl) (by kernel_rfl)
theorem Ep:ak 35 (eg 5 SpB Xr):=(gu RE 5 (by kernel_rfl) SpB rfl (by decide) λX cs f v ⟨n,k,o,p⟩=>by
 subst n o p;refine⟨rfl,by cases f.K k<;>rfl,λc a=>?_⟩;have b:=a.has k;have hi:=a.I k;cases d:f.K k with
 |none=>
  rw[d]at b
  conv=>whnf
  refine⟨2,c.px,c.x,[.ss k],.sb false,rfl,by decide,by decide,.cons .same .nil,rfl,rfl,⟨k,rfl,congrArg AV.sb b.symm⟩,?_⟩
  conv=>whnf
  refine ae.nsb (λz=>?_) (λz=>?_)
  focus
   conv=>whnf
   exact⟨_,c,.told rfl,a,bP rfl rfl rfl rfl rfl⟩
  cases z
 |some e=>
  rw[d]at b hi;obtain⟨h,i,j,q,r,s,l⟩:=a.at1 d
  conv=>whnf
  refine⟨2,c.px,c.x,[.ss k],.sb true,rfl,by decide,by decide,.cons .same .nil,rfl,rfl,⟨k,rfl,congrArg AV.sb b.symm⟩,?_⟩
  conv=>whnf
  refine ae.nsb (λz=>?_) (λz=>?_)
  focus
   cases z
  conv=>whnf
  refine Ask.mk _ (aZ (m:=c.m) (g:=gE) (k:=k) bS ot rfl rfl rfl qi q) ?_
  conv=>whnf
  refine⟨4,aN i,aN j,h,e.S,e.L,_,rfl,by decide,by decide,rfl,congrArg (λx=>some (AO.sep (aG x))) l,⟨rfl,rfl⟩,?_⟩
  conv=>whnf
  refine⟨4,aN i,aN j,h,e.S,e.L,_,rfl,by decide,by decide,rfl,congrArg (λx=>some (AO.sep (aG x))) l,⟨rfl,rfl⟩,?_⟩
  conv=>whnf
  refine⟨2,c.px,c.x,[.ss k],gL e.lab,rfl,by decide,by decide,.cons .same .nil,rfl,rfl,⟨k,rfl,by rw[hi];rfl⟩,?_⟩
  conv=>whnf
  exact⟨_,c,.told rfl,a,bP rfl rfl rfl rfl rfl⟩).ol
theorem Cov.hole{p n:Nat}{σ:AE}{H:AH}{s:AE×AH×Nat}(h:Cov p σ (H.set (some (.sep .emp)) aa n) (n+1) s):Cov p σ H n s:=λx f g i j k=>by
 obtain⟨m,l,c⟩:=j.hole;obtain⟨o,d,r,u⟩:=h m f g i c (λt a v=>VR.mono l _ _ (k t a v));exact⟨o,⟨λb q w e=>d.1 b q w (l.b b q e),λq e=>d.2.1 q (l.z q e),λq e=>l.y q (d.2.2 q e)⟩,r,u⟩
def lF:SpV:=⟨λ_=>none,λ_=>none,0⟩
theorem RF(px pg:Nat×Nat):bF lF ⟨MpC.no,⟨[],0⟩,px,[],pg⟩:=⟨MpC.D9,.nil,.nil,by decide,Z3 _,Z3 _,Z3 _,Z3 _,λ_=>rfl,λ_=>rfl,λ_=>rfl,λ_ h=>(by cases h),λ_ _ h=>(by cases h),λ_ _ h=>(by cases h),λ_ _ h=>(by cases h)⟩
def Yz:FuncId->EP:=bg 9 [] (aq 51 (uI 4 IxB λcs y=>cs=[]/\y=⟨[],0⟩) (aq 52 (uI 2 GrB λcs y=>cs=[]/\y=[]) evP))
theorem RG:aV Yz:=au (ag (ag az Rf) Q9) (by kernel_rfl) (by kernel_rfl)
def Xs(b:Nat):Nat:=if b=0 then 9 else if b=1 then 0 else if b=2 then 1 else if b=3 then 6 else if b=4 then 10 else b+100
theorem IH:ak 9 (uI 5 SpB λcs y=>cs=[]/\y=lF):=N4 (ay RG 5 _) (by kernel_rfl) SpB rfl (by decide) λcs y ⟨h,j⟩=>by
 subst h j;refine⟨rfl,?_⟩
 conv=>whnf
 refine⟨[],⟨[],0⟩,_,by decide,.nil,rfl,⟨rfl,rfl⟩,λd=>?_⟩
 conv=>whnf
 refine⟨[],[],_,by decide,.nil,rfl,⟨rfl,rfl⟩,λf=>?_⟩
 conv=>whnf
 refine⟨⟨MpC.no,⟨[],0⟩,d,[],f⟩,RF d f,Cov.hole (Cov.ofR Xs (Y5 _) (λb k=>absurd k (q0n b)) (λx c=>?_) (λx c=>?_) (λx c y g e=>?_))⟩
 ·simp only[Z4,Z5,or_false]at c;subst c;exact .ptr (by decide) rfl
 ·simp only[bM,spO,SpB,Z4,Z5,or_false]at c;rcases c with rfl|rfl|rfl|rfl|rfl
  ·refine⟨Z0 rfl,.inl ⟨_,rfl,.cells (Z3 _) id λi l a=>?_⟩⟩
   match i,a with
   |0,a=>injection a with a;subst a;exact⟨_,rfl,.map (by decide) rfl⟩
   |1,a=>injection a with a;subst a;exact⟨_,rfl,.aK rfl⟩
   |2,a=>injection a with a;subst a;exact⟨_,rfl,.aK rfl⟩
   |i+3,a=>simp at a
  ·exact⟨Z0 rfl,.inl ⟨_,rfl,.Oa⟩⟩
  ·exact⟨Z0 rfl,.inl ⟨_,rfl,ao.sep _⟩⟩
  ·exact⟨Z0 rfl,.inl ⟨_,rfl,ao.sep _⟩⟩
  ·exact⟨Z0 rfl,.inl ⟨_,rfl,ao.sep _⟩⟩
 ·simp only[bM,spO,SpB,Z4,Z5,or_false]at c g;rcases c with rfl|rfl|rfl|rfl|rfl<;>rcases g with rfl|rfl|rfl|rfl|rfl<;>simp[Xs]at e⊢
theorem Re.Mr{H d:AH}{n:Nat}{a f c g:AV}(h:Re H n a d f)(e:mkT c=mkT g):Re H n (.tup [a,c]) d (.tup [f,g]):=λi j k w m o=>by
 obtain⟨cs,rfl,p⟩:=o.eY;obtain⟨x,y,rfl,q,r⟩:=vs2 p;obtain⟨s,l,b,t⟩:=h i j k x m q;exact⟨s,l,b,.tup (.cons t (.cons (VR.mono l _ _ (H6 (e▸r.mkT))) .nil))⟩
theorem Re.slK{H:AH}{n b m c k:Nat}{l s:List AV}{z:Bool}(e:k≠0)(u:m<=c)(f:H.get b=some (.cells l z))(g:s.all flat.flat1=true)(a:s.length=m*k)(d:l.map mk=s.map mk):Re H n (.sl b 0 m c k) (H.set none aa b) (.fr m k s):=λi j h w o q=>by
 refine Re.row (x:=0) f g a d (by decide) i j h w o ?_;obtain⟨p,C,r,rfl,v,t⟩:=q.fg;obtain⟨y,A⟩:=t e;exact .rw r (λ_=>rfl) (q0q _ _) (by omega) (by omega)
def OS:AV:= .agg [.int .i64 0,.int .i64 100,.bool false,.int .i64 0,.int .i64 0,.int .i64 0,.int .i64 0,.bool false,.nsl,.bool false,.int .i64 0,.int .i64 0]
def few(L:Smp):Prop:=L=[]∨∃t x,L=[(t,x)]/\0<=t/\t<=100
def Xt(cs:List AV)(v:AV):Prop:=∃L,few L/\cs=[.fr L.length 2 (smp L),OS]/\v= .tup [.fr L.length 2 (smp L),.si .i64 0]
def kTl:FuncId->EP:=bg 103 [] evP
theorem Vg:aV kTl:=au az (by kernel_rfl) (by kernel_rfl)
theorem RH:ak 103 (db Xt):=zE (ay Vg 4 _) (by kernel_rfl) λcs v ⟨L,a,d,e⟩=>by
 subst d e;refine⟨rfl,rfl,?_⟩;rcases a with rfl|⟨t,x,rfl,f,g⟩
 ·conv=>whnf
  refine aR.roll 1 ?_
  conv=>whnf
  refine ae.dec (λz=>absurd z (by decide)) (λz=>?_)
  conv=>whnf
  exact⟨_,.Mr .nsl rfl⟩
 ·conv=>whnf
  refine aR.roll 2 ?_
  conv=>whnf
  refine ae.dec (λz=>?_) (λz=>absurd (show(0:Int)<((1:Nat):Int) by decide) z)
  conv=>whnf
  refine Idx.mk 0 rfl Nat.zero_lt_one ?_
  conv=>whnf
  refine ae.dec (λz=>absurd z (by show¬t<0;omega)) (λz=>?_)
  conv=>whnf
  refine ae.dec (λz=>absurd z (by show¬100<t;omega)) (λz=>?_)
  conv=>whnf
  refine aR.roll 1 ?_
  conv=>whnf
  refine ae.dec (λz=>absurd (show IntKind.i64.wrap (0+1)<((1:Nat):Int) from z) (by rw[ai (by decide) (by decide)];decide)) (λz=>?_)
  conv=>whnf
  refine⟨_,.Mr (Re.slK (b:=6) (m:=1) (c:=1) (k:=2) (z:=true) (l:=[.si .i64 t,.si .i64 x]) (s:=smp [(t,x)]) (by decide) (by decide) ?_ rfl rfl rfl) rfl⟩;exact rfl
def q0:AV:= .agg [.int .i64 0,.int .i64 0,.bool false,.int .i64 0,.int .i64 0,.int .i64 0,.int .i64 0,.bool false,.nsl,.bool false,.int .i64 0,.int .i64 0]
def Er(X:SpV)(cs:List AV)(v:AV):Prop:=∃k,(cs=[.ss k,q0]/\X.K k=none/\v= .tup [.nsl,.si .i64 5])∨∃e,cs=[.ss k,OS]/\X.K k=some e/\few (bd 0 1099511627776 e.L)/\v= .tup [.fr (bd 0 1099511627776 e.L).length 2 (smp (bd 0 1099511627776 e.L)),.si .i64 0]
def YA:FuncId->EP:=bg 45 [(5,[(some 1000000,[7,8]),(none,[0,1,2,3,4,5,6,7,8,9,10,11,12,13]),(none,[0,1,2,3,4,5,6,8,7,9,10,11,12,13])])] (aq 84 (eg 4 IxB Kv) (cn 21 (uP DV) (aq 103 (db Xt) evP)))
theorem RI:aV YA:=au (ag (aL (ag az RH) ON (Gm _)) sT) (by kernel_rfl) (by kernel_rfl)
theorem OT:ak 45 (eg 5 SpB Er):=(gu RI 5 (by kernel_rfl) SpB rfl (by decide) λX cs s v ⟨j,k,h⟩=>by
 subst j;rcases h with⟨f,d,i⟩|⟨e,f,d,l,i⟩
 ·subst f i;refine⟨rfl,rfl,λc a=>?_⟩;have b:=a.has k;rw[d]at b
  conv=>whnf
  refine⟨2,c.px,c.x,[.ss k],.sb false,rfl,by decide,by decide,.cons .same .nil,rfl,rfl,⟨k,rfl,congrArg AV.sb b.symm⟩,?_⟩
  conv=>whnf
  refine ae.nsb (λz=>?_) (λz=>?_)
  focus
   conv=>whnf
   exact⟨_,c,.told rfl,a,bP rfl rfl rfl rfl rfl⟩
  cases z
 ·subst f i;refine⟨rfl,rfl,λc a=>?_⟩;have b:=a.has k;rw[d]at b;obtain⟨n,o,p,q,t,u,r⟩:=a.at1 d
  conv=>whnf
  refine⟨2,c.px,c.x,[.ss k],.sb true,rfl,by decide,by decide,.cons .same .nil,rfl,rfl,⟨k,rfl,congrArg AV.sb b.symm⟩,?_⟩
  conv=>whnf
  refine ae.nsb (λz=>?_) (λz=>?_)
  focus
   cases z
  conv=>whnf
  refine⟨?_,?_,trivial⟩
  all_goals
   conv=>whnf
   refine Ask.mk _ (aZ (m:=c.m) (g:=gE) (k:=k) bS ot rfl rfl rfl qi q) ?_
   conv=>whnf
   refine⟨4,aN o,aN p,n,e.S,e.L,bd 0 1099511627776 e.L,rfl,by decide,by decide,rfl,congrArg (λx=>some (AO.sep (aG x))) r,⟨_,_,0,1099511627776,rfl,rfl,rfl,rfl⟩,?_⟩
   conv=>whnf
   refine⟨_,_,_,.cons .same (.cons .same .nil),⟨_,l,rfl,rfl⟩,?_⟩
   conv=>whnf
   exact⟨_,c,.told rfl,a,bP rfl rfl rfl rfl rfl⟩).ol
def Xu(cs:List AV)(v:AV):Prop:=∃V W,cs=[.fr V.length 1 (strs V),.fr W.length 1 (strs W)]/\V.length<=1000000/\v= .sb (decide (V=W))
def Xv:FuncId->EP:=bg 30 [] evP
theorem RJ:aV Xv:=au az (by kernel_rfl) (by kernel_rfl)
def smT (V:List (List Nat)) (W:List (List Nat)) (i:Nat):AE×AH:=(mkE [(0,.fr V.length 1 (strs V)),(1,.fr W.length 1 (strs W)),(5,.si .i64 (i))],mkH [])
theorem II{V:List (List Nat)}{W:List (List Nat)}{i:Nat}{p n:Nat}{σ:AE}{H:AH}(a:p<=0)(b:aj (pa 0) σ= .fr V.length 1 (strs V))(c:aj (pa 1) σ= .fr W.length 1 (strs W))(d:mk (aj (pa 5) σ)= .si .i64 (i)):Cov p σ H n ((smT V W i).1,(smT V W i).2,0):=
 Cov.ofA a ⟨ah.frE b,ah.frE c,.int d,trivial⟩ trivial rfl
theorem RK(V W:List Tx)(r:V.length<=1000000):ax Xv 3 30 [.fr V.length 1 (strs V),.fr W.length 1 (strs W)] .nil 0 (dG (.sb (decide (V=W)))):=by
 conv=>whnf
 refine ae.dk (λd=>?_) (λd=>?_)
 ·have o:decide (V=W)=false:=decide_eq_false λe=>d (by subst e;rfl)
  rw[o]
  conv=>whnf
  exact dG.told rfl
 ·have m:V.length=W.length:=q3y.1 d
  conv=>whnf
  refine aR.mk {i:Nat//i<=V.length/\V.take i=W.take i} 0 (λi=>smT V W i.val) (λi=>V.length-i.val) ⟨0,Y5 _,rfl⟩ ?_ ?_
  ·exact II (i:=0) (Z3 0) rfl rfl rfl
  ·intro⟨i,s,f⟩
   conv=>whnf
   refine ae.dec (λg=>?_) (λg=>?_)
   ·have a:i<V.length:=q0s.1 g;have b:i<W.length:=m▸a;have j:V.length-(i+1)<V.length-i:=by omega
    have p:IntKind.i64.wrap ((i:Int)+1)=((i+1:Nat):Int):=by rw[ai (by omega) (by omega)];omega
    have k:V[i]=W[i]->V.take (i+1)=W.take (i+1):=λe=>by rw[Y8 a,Y8 b,f,e]
    have l:¬V[i]=W[i]->decide (V=W)=false:=λq=>decide_eq_false λe=>q (by subst e;rfl)
    conv=>whnf
    refine Idx.mk i rfl a ?_
    conv=>whnf
    refine aw (gv a (q0p _)) ?_
    conv=>whnf
    refine Idx.mk i rfl b ?_
    conv=>whnf
    refine aw (gv b (q0p _)) ?_
    conv=>whnf
    refine ae.nsb (λc=>?_) (λc=>?_)
    ·have:=l λe=>by rw[bE.2 e]at c;cases c
     conv=>whnf
     exact⟨_,.told (congrArg AV.sb this.symm)⟩
    ·have:=k (bE.1 c)
     conv=>whnf
     exact⟨⟨i+1,a,this⟩,j,II (Z3 0) rfl rfl (congrArg (AV.si .i64) p)⟩
   ·have a:i=V.length:=by have:¬(i:Int)<(V.length:Int):=g;omega
    have b:decide (V=W)=true:=decide_eq_true (by rw[a,q0l,m,q0l]at f;exact f)
    conv=>whnf
    exact⟨_,.told (congrArg AV.sb b.symm)⟩
theorem YB:ak 30 (db Xu):=pn RJ 3 (by kernel_rfl) λcs v ⟨V,W,a,b,c⟩=>by
 subst a c;exact⟨rfl,rfl,RK V W b⟩
section
variable {φ:Ph} {H H2:AH} {n:Nat} {h0 h:Hp}
theorem HR.RL(w:HR φ H n h0 h){c b i m k:Nat}{lc l s:List AV}{zc z:Bool}(x:H.get c=some (.cells lc zc))(hi:lc[i]?=some (.sl b 0 m m 0))(C:H.get b=some (.cells l z))(f:c≠b)(D:b<1000000)(E:s.all flat.flat1=true)(g:s.length=m*k)(o:l.map Go.Proofs.YtflehenfikoniaaGreat.mk=s.map Go.Proofs.YtflehenfikoniaaGreat.mk):
 ∃χ,PLe φ χ/\HR χ ((H.set none aa b).set (some (.cells (lc.set i (.fr m k s)) zc)) aa c) n h0 h:=by
 have a:=(Y6.1 hi).1;rcases w.live c _ x with⟨_,F⟩|⟨p,Z,G,h2,I,J⟩
 ·cases lc with
  |nil=>cases a
  |cons _ _=>cases F
 obtain⟨cc,t,fz,rfl,o1,o2,o3,o4,K⟩:=J;obtain⟨y,L,M⟩:=K i _ hi;obtain⟨χ,A,N,O⟩:=Re.sl C E g o φ h0 h y w M;have r:(H.set none aa b).get c=some (.cells lc zc):=PM.gne (by omega) f x
 refine⟨χ,A,N.Sh r rfl rfl (λq=>by cases lc with
  |nil=>cases a
  |cons _ _=>cases q) λP Q R d ⟨u,S,v,B,T,U,V,W,X⟩=>⟨u,S,v,B,by rw[List.length_set];exact T,U,V,W,λj Y e=>?_⟩⟩
 have:P=p:=by have:=A.b c p G;rw[R]at this;injection this
 subst this;rw[I]at d;injection d with d;rw[B]at d;injection d with d;subst d;by_cases q:i=j
 ·subst q;rw[List.getElem?_set_self a]at e;injection e with e;subst e;exact⟨y,L,O⟩
 ·rw[List.getElem?_set_ne q]at e;exact X j Y e
theorem Cov.pre{p:Nat}{σ:AE}{s:AE×AH×Nat}(h:∀φ h0 h,HR φ H n h0 h->∃ψ,PLe φ ψ/\HR ψ H2 n h0 h)(g:Cov p σ H2 n s):Cov p σ H n s:=λφ h0 f i j k=>by
 obtain⟨ψ,l,c⟩:=h φ h0 f j;obtain⟨m,d,o,r⟩:=g ψ h0 f i c (λt a u=>VR.mono l _ _ (k t a u));exact⟨m,⟨λb q v e=>d.1 b q v (l.b b q e),λq e=>d.2.1 q (l.z q e),λq e=>l.y q (d.2.2 q e)⟩,o,r⟩
end
abbrev rK:Rl:=⟨[97],[98],1,10,0⟩
abbrev nU:List Lab:=[([120],[49])]
def stV(a b:cU)(q:Bool)(n:Nat):SpV:=⟨λx=>if x=[98]then some b else if x=[97]then some a else none,λd=>if d=[98]then(if q=true then some rK else none)else none,n⟩
section
variable {a b e:cU} {q:Bool} {n:Nat}
theorem SL:fu (stV a b q n) [97] e=stV e b q n:=by
 unfold fu stV;congr 1;funext x;by_cases h:x=[97]
 ·subst h;rfl
 ·(try simp only[if_neg h])
theorem SM:fu (stV a b q n) [98] e=stV a e q n:=by
 unfold fu stV;congr 1;funext x;by_cases h:x=[98]
 ·subst h;rfl
 ·(try simp only[if_neg h])
theorem SN{c:Bool}{m:Nat}:({m5 (stV a b q n) [98] (if c=true then some rK else none)with n:=m}:SpV)=stV a b c m:=by
 have e:(λx=>if x=[98]then(if c=true then some rK else none)else(stV a b q n).R x)=(stV a b c m).R:=funext λx=>by
  unfold stV;by_cases h:x=[98]
  ·(try simp only[if_pos h])
  ·(try simp only[if_neg h])
 show(⟨(stV a b q n).K,(λx=>if x=[98]then(if c=true then some rK else none)else(stV a b q n).R x),m⟩:SpV)=_;rw[e];rfl
theorem zP(t:Int):bU (stV a b q n) rK t=stV a {b with S:=(du rK t a b).1,L:=(du rK t a b).2} q n:=SM
def gV(q:Bool):Gr:=if q=true then [([98],rK)]else []
theorem IJ:((gV q).map Prod.fst).Nodup:=by cases q<;>simp[gV]
theorem BT(k:Tx):aM (gV q) k=(stV a b q n).R k:=by
 cases q
 ·show aM [] k=_;unfold stV;by_cases h:k=[98]<;>simp[h,aM,gA]
 ·show aM [([98],rK)] k=_;unfold stV;by_cases h:k=[98]<;>simp[h,aM,gA]
theorem SO(x:Tx):aI [x]=[x]:=tS (bj _).1 (List.pairwise_singleton _ _) λy=>by rw[(bj _).2]
theorem OU:aI []=[]:=tS (bj _).1 .nil λy=>by rw[(bj _).2]
theorem Vh(k:Tx):ofX (stV a b q n) k=if q=true/\k=[97]then [rK]else []:=by
 have h:=mY (f:=(stV a b q n).R) (A:=gV q) IJ BT;have e:ofX (stV a b q n) k=ofG (gV q) k:=BN h.1 IJ (λd=>by rw[h.2,BT (a:=a) (b:=b) (n:=n)]) (λr=>decide (r.src=k));rw[e];cases q
 ·show pkF [] _=_;unfold pkF;simp[OU]
 ·show pkF [([98],rK)] _=_;unfold pkF;by_cases c:k=[97]
  ·subst c;simp[SO,pkS,rul,aM,gA]
  ·have:¬[97]=k:=λe=>c e.symm
   simp[c,this,OU]
theorem Xw:yB (stV a b q n)=if q=true then [rK]else []:=by
 have h:=mY (f:=(stV a b q n).R) (A:=gV q) IJ BT;have e:yB (stV a b q n)=Om (gV q):=BN h.1 IJ (λd=>by rw[h.2,BT (a:=a) (b:=b) (n:=n)]) (λ_=>true);rw[e];cases q
 ·show pkF [] _=_;unfold pkF;simp[OU]
 ·show pkF [([98],rK)] _=_;unfold pkF;simp[SO,pkS,rul,aM,gA]
theorem Vi:zN (stV a b q n)=[[97],[98]]:=by
 have nd:(([([97],a),([98],b)]:List (Tx×cU)).map Prod.fst).Nodup:=by simp
 have j:∀k,aM ([([97],a),([98],b)]:List (Tx×cU)) k=(stV a b q n).K k:=λk=>by
  unfold stV;by_cases d:k=[98]
  ·subst d;rfl
  ·by_cases f:k=[97]
   ·subst f;rfl
   ·simp[d,f,aM,gA]
 have h:=mY nd j;refine tS (bj _).1 ?_ λy=>?_
 ·refine .cons (λy c=>?_) (List.pairwise_singleton _ _);rw[List.mem_singleton]at c;subst c;kernel_rfl
 ·show y∈aI _<->_;rw[(bj _).2];constructor
  ·intro c;obtain⟨⟨k,e⟩,d,rfl⟩:=q0t.1 c;rw[pB h.1,h.2]at d;unfold stV at d;by_cases g:k=[98]
   ·simp[g]
   ·by_cases i:k=[97]
    ·simp[i]
    ·simp[g,i]at d
  ·intro c
   have:∃e,(stV a b q n).K y=some e:=by
    simp only[Z4,Z5,or_false]at c;rcases c with rfl|rfl
    ·exact⟨a,rfl⟩
    ·exact⟨b,rfl⟩
   obtain⟨e,l⟩:=this;exact q0t.2 ⟨(y,e),cY (by rw[h.2];exact l),rfl⟩
theorem ye:Links (stV a b q n):=λd r h=>by
 unfold stV at h;dsimp only at h;split at h
 ·split at h
  ·injection h with h;subst h;rename_i c _;subst c;exact⟨rfl,rfl⟩
  ·cases h
 ·cases h
theorem K1{m:Nat}(c:a.L.length<=m)(d:b.L.length<=m):Bnd (stV a b q n) m:=λk e h=>by
 unfold stV at h;dsimp only at h;split at h
 ·injection h with h;subst h;exact d
 ·split at h
  ·injection h with h;subst h;exact c
  ·cases h
end
abbrev sK(m:Int):Sr:=⟨128,0,1,m,0⟩
abbrev eK(m:Int)(L:Smp):cU:=⟨sK m,L,128,nU⟩
abbrev eZ:cU:=eK (-1) []
theorem OV:(iI [97]&&ew nU)=true:=by kernel_rfl
theorem RM:(iI [98]&&ew nU)=true:=by kernel_rfl
theorem OW:b9 nU=nU:=by kernel_rfl
theorem Gs:mQ 128 0 1=some (sK (-1)):=if_pos (by decide)
theorem Xx:crF lF [97] 128 0 1 nU=(crK lF [97] eZ,0):=by
 unfold crF;rw[Gs];dsimp only;rw[if_pos OV,OW];exact if_neg (by simp[lF])
theorem Vj:crK (crK lF [97] eZ) [98] eZ=stV eZ eZ false 2:=by
 unfold crK stV lF;simp
theorem Xy:crF (crK lF [97] eZ) [98] 128 0 1 nU=(stV eZ eZ false 2,0):=by
 rw[<-Vj];unfold crF;rw[Gs];dsimp only;rw[if_pos RM,OW];exact if_neg (by simp[lF,crK])
theorem Xz:crF (stV eZ eZ false 2) [97] 128 0 1 nU=(stV eZ eZ false 2,6):=by
 unfold crF;rw[Gs];dsimp only;rw[if_pos OV];exact if_pos (by simp[stV])
theorem XA:bk rK=true:=by kernel_rfl
theorem XB:rlF (stV eZ eZ false 2) rK=(stV eZ eZ true 3,0):=by
 unfold rlF;rw[if_pos XA,if_pos ⟨rfl,rfl⟩,if_neg (by simp[stV]),Vh,if_neg (by simp[stV])];exact congrArg (·,0) (SN (c:=true) (m:=3))
theorem XC:lkF (stV eZ eZ false 2) rK=(stV eZ eZ true 3,0):=by
 unfold lkF;rw[XB,if_neg (by simp)];exact congrArg (·,0) SM
theorem Vk{a b:cU}{n:Nat}:dI (stV a b true n) [97]=0:=rfl
theorem XD{a b:cU}{n:Nat}:dI (stV a b true n) [98]=10:=rfl
theorem Vl{a b:cU}{n:Nat}{t v p:Int}{S:Sr}{L:Smp}(h:bJ a.S a.L t v p=((S,L),0)):jc (stV a b true n) [97] t v p=(cq [97] a.S.mx t (stV {a with S:=S,L:=L} b true n) rK,0):=by
 unfold jc;rw[Vk,if_neg (λq=>q rfl)];show(if(bJ a.S a.L t v p).2≠0 then _ else _)=_;rw[h,if_neg (λq=>q rfl),Vh,if_pos ⟨rfl,rfl⟩];unfold uX;rw[h,SL];rfl
theorem XE:jc (stV eZ eZ true 3) [97] 1 5 0=(stV (eK 1 [(1,5)]) eZ true 3,0):=by
 rw[Vl (S:=sK 1) (L:=[(1,5)]) (by kernel_rfl)];unfold cq;rw[if_neg (by intro h;exact absurd h.1 (by decide)),zP];rfl
theorem XF:jc (stV (eK 1 [(1,5)]) eZ true 3) [97] 5 6 0=(stV (eK 5 [(1,5),(5,6)]) eZ true 3,0):=by
 rw[Vl (S:=sK 5) (L:=[(1,5),(5,6)]) (by kernel_rfl)];unfold cq;rw[if_pos ⟨by decide,by decide⟩,zP,zP];rfl
theorem YC:pE (stV (eK 5 [(1,5),(5,6)]) eZ true 3) [97] 12 1=(stV (eK 12 [(1,5),(5,6),(12,7)]) (eK 0 [(0,11)]) true 3,7,0):=by
 have e:jc (stV (eK 5 [(1,5),(5,6)]) eZ true 3) [97] 12 7 3=(stV (eK 12 [(1,5),(5,6),(12,7)]) (eK 0 [(0,11)]) true 3,0):=by
  rw[Vl (S:=sK 12) (L:=[(1,5),(5,6),(12,7)]) (by kernel_rfl)];unfold cq;rw[if_pos ⟨by decide,by decide⟩,zP,zP];have d:du rK 5 (eK 12 [(1,5),(5,6),(12,7)]) eZ=(sK 0,[(0,11)]):=by kernel_rfl
  rw[d];have c:du rK 12 (eK 12 [(1,5),(5,6),(12,7)]) (eK 0 [(0,11)])=(sK 0,[(0,11)]):=by kernel_rfl
  exact congrArg (λz:Sr×Smp=>((stV (eK 12 [(1,5),(5,6),(12,7)]) ⟨z.1,z.2,128,nU⟩ true 3,0):SpV×Int)) c
 unfold pE;rw[Vk,if_neg (λq=>q rfl)];have c:nT (vAt [(1,5),(5,6)] (List.length [(1,5),((5,6):Int×Int)]-1)) 1=(7,0):=by kernel_rfl
 show(if(12:Int)<0∨1099511627776<=(12:Int)then _ else _)=_;rw[if_neg (by decide),if_neg (by decide),c,if_neg (λq=>q rfl),e,if_neg (λq=>q rfl)]
theorem XG:jc (stV (eK 12 [(1,5),(5,6),(12,7)]) (eK 0 [(0,11)]) true 3) [98] 1 5 0=(stV (eK 12 [(1,5),(5,6),(12,7)]) (eK 0 [(0,11)]) true 3,10):=by
 unfold jc;rw[XD];exact if_pos (by decide)
theorem YD:pD (stV (eK 12 [(1,5),(5,6),(12,7)]) (eK 0 [(0,11)]) true 3) [97] 5 5=(stV (eK 12 [(1,5),(12,7)]) (eK 0 [(0,5)]) true 3,1,0):=by
 unfold pD;rw[Vk,if_neg (λq=>q rfl),Vh,if_pos ⟨rfl,rfl⟩];show(cu (bd 5 5 [(1,5),(5,6),(12,7)]) (fu (stV _ _ true 3) [97] _) rK,_,_)=_;rw[SL];have d:bd 5 5 [(1,5),(5,6),(12,7)]=[(5,6)]:=by kernel_rfl
 have f:aE [(1,5),(5,6),(12,7)] 5 5=[(1,5),(12,7)]:=by kernel_rfl
 have c:bB rK 5=0:=by kernel_rfl
 have g:du rK 0 (eK 12 [(1,5),(12,7)]) (eK 0 [(0,11)])=(sK 0,[(0,5)]):=by kernel_rfl
 show(cu (bd 5 5 [(1,5),(5,6),(12,7)]) (stV ⟨sK 12,aE [(1,5),(5,6),(12,7)] 5 5,128,nU⟩ _ true 3) rK,(((List.length [(1,5),(5,6),((12,7):Int×Int)]-(aE [(1,5),(5,6),(12,7)] 5 5).length:Nat):Int),(0:Int)))=_;rw[d,f];unfold cu sX;show((bV rK (-1,_) (5,6)).2,_)=_;unfold bV;rw[if_pos (by rw[c];decide)];show(bU (stV _ _ true 3) rK (bB rK 5),_,_)=_;rw[c,zP,g];rfl
theorem YE:qj (stV (eK 12 [(1,5),(12,7)]) (eK 0 [(0,5)]) true 3) [97] [98]=(stV (eK 12 [(1,5),(12,7)]) (eK 0 [(0,5)]) false 3,0):=by
 unfold qj;show(if rK.src=[97]then _ else _)=_;rw[if_pos rfl];exact congrArg (·,0) (SN (c:=false) (m:=3))
theorem XH:few (bd 0 1099511627776 []):= .inl rfl
theorem SQ:bd 0 1099511627776 [(0,11)]=[(0,11)]:=by kernel_rfl
theorem SR:bd 0 1099511627776 [(0,5)]=[(0,5)]:=by kernel_rfl
def IK(args:List AV)(H:AH)(n:Nat)(κ:PK):Prop:=match args with
 |a::f=>∃b p X k c,a=aK p/\b<n/\n<800000/\Res H n f c [.ss k]/\c.get b=some (.sep (SpB.Q X p))/\iE c 5 n=true/\((X.K k=none/\κ .nil (c.set (some (.sep (SpB.Q X p))) aa b) (n+5))∨∃e,X.K k=some e/\∀d,κ (aK d) ((c.set (some (.sep (SpB.Q X p))) aa b).set (some (.sep (cz d e.S e.L))) aa (n+5)) (n+6))
 |_=>False
theorem OX:ak 16 IK:=λargs H n g c=>by
 unfold IK at c;split at c
 ·obtain⟨b,p,X,k,h,i,j,l,m,o,q,a⟩:=c;refine Gq _ H n g ⟨b,p,X,[.ss k],X,_,h,i,j,l,m,o,q,⟨k,rfl,rfl,rfl⟩,λv E d=>?_⟩;rcases a with⟨f,a⟩|⟨e,f,a⟩
  ·rw[f]at d;obtain⟨rfl,rfl⟩:=d;exact a
  ·rw[f]at d;obtain⟨r,rfl,rfl⟩:=d;exact a r
 ·exact c.elim
def XI:FuncId->EP:=aq 9 (uI 5 SpB λcs y=>cs=[]/\y=lF) (aq 46 (cX 5 SpB Rs) (aq 48 (cX 5 SpB Vc) (aq 32 (cX 5 SpB qe) (aq 45 (eg 5 SpB Er) (aq 19 (cX 5 SpB OQ) (aq 44 (cX 5 SpB BS) (aq 35 (eg 5 SpB Xr) (aq 49 (cX 5 SpB U7) (aq 12 (eg 5 SpB U6) (aq 25 (eg 5 SpB Xe) (aq 16 IK (aq 57 (ky Sx) (aq 27 (cX 5 SpB Rq) (aq 20 (HM 1000000 oe) (aq 30 (db Xu) evP)))))))))))))))
theorem RN:aV XI:=ag (ag (ag (ag (ag (ag (ag (ag (ag (ag (ag (ag (ag (ag (ag (ag az YB) QT) Ek) Uq) OX) OJ) zO) yb) Ep) IG) Eo) OT) IB) Em) yc) IH
def XJ:FuncId->EP:=bg 14 [(1000005,[])] XI
theorem RO:aV XJ:=au RN (by kernel_rfl) (by kernel_rfl)
theorem XK:few (bd 0 1099511627776 [(0,11)]):=by rw[SQ];exact .inr ⟨0,11,rfl,by decide,by decide⟩
theorem XL:few (bd 0 1099511627776 [(0,5)]):=by rw[SR];exact .inr ⟨0,5,rfl,by decide,by decide⟩
theorem XM:AV.tup [.fr 1 2 (smp [(0,11)]),.si .i64 0]= .tup [.fr (bd 0 1099511627776 [(0,11)]).length 2 (smp (bd 0 1099511627776 [(0,11)])),.si .i64 0]:=by rw[SQ];rfl
theorem XN:AV.tup [.fr 1 2 (smp [(0,5)]),.si .i64 0]= .tup [.fr (bd 0 1099511627776 [(0,5)]).length 2 (smp (bd 0 1099511627776 [(0,5)])),.si .i64 0]:=by rw[SR];rfl
theorem XO:oe [(0,11)] [(0,11)]=true:=by kernel_rfl
theorem XQ:oe [(0,5)] [(0,5)]=true:=by kernel_rfl
theorem IL{X:SpV}{k:Tx}:(jz X k).K k=none:=by
 unfold jz;split
 ·exact if_pos rfl
 ·rename_i h;cases e:X.K k with
  |none=>rfl
  |some y=>rw[e]at h;exact absurd rfl h
theorem RP{X:SpV}{k:Tx}(h:X.K k=none):jz X k=X:=by
 unfold jz;rw[h];rfl
theorem XR{X:SpV}{k:Tx}:jz X k=jz (jz X k) k:=(RP IL).symm
theorem XS{X:SpV}{k:Tx}:AV.sb false= .sb ((jz X k).K k).isSome:=by rw[IL];rfl
def knO (w:Nat×Nat):AE×AH:=(mkE [(0,.sb (false)),(1,aK w),(2,.ptr 7 (0))],mkH [(0,.sep (SpB.Q lF w)),(7,.cells [.int .i64 128,.int .i64 0,.int .i64 1,.fr 1 2 (cN nU)] true)])
theorem RQ{w:Nat×Nat}{p n:Nat}{σ:AE}{H:AH}(a:p<=8)(b:mk (aj (pa 0) σ)= .sb (false))(c:aj (pa 1) σ=aK w)(d:aj (pa 2) σ= .ptr 7 (0))(e:H.get 0=some (.sep (SpB.Q lF w)))(f:H.get 7=some (.cells [.int .i64 128,.int .i64 0,.int .i64 1,.fr 1 2 (cN nU)] true)):Cov p σ H n ((knO w).1,(knO w).2,8):=
 Cov.ofA a ⟨.bool b,ah.aK c,.ptr (by decide) d,trivial⟩ ⟨.inl ⟨_,e,ao.sep _⟩,.inl ⟨_,f,ao.refl rfl⟩,trivial⟩ rfl
theorem K2:ax XJ 6 14 [] .nil 0 (λu _ _=>mkT u=AV.sb true):=by
 conv=>whnf
 refine⟨[],lF,_,by decide,.nil,rfl,⟨rfl,rfl⟩,λp=>?_⟩
 conv=>whnf
 refine yU.mk Unit 8 (λ_=>knO p) ?_ ?_
 focus
  conv=>whnf
  exact⟨(),Cov.pre (λe f h a=>a.RL (c:=7) (b:=6) (i:=3) (m:=1) (k:=2) (s:=cN nU) rfl rfl rfl (by decide) (by decide) rfl rfl rfl) (RQ (w:=p) (Y5 8) rfl rfl rfl rfl rfl)⟩
 intro _
 conv=>whnf
 refine⟨0,p,lF,[.ss [97],Gk 128 0 1 nU],(crK lF [97] eZ),.si .i64 0,_,rfl,by decide,by decide,.cons (.told rfl) (.cons (.agg rfl) .nil),rfl,rfl,⟨[97],128,0,1,nU,((crK lF [97] eZ),0),rfl,by decide,by decide,Xx,rfl,rfl⟩,?_⟩
 conv=>whnf
 refine⟨0,p,(crK lF [97] eZ),[.ss [98],Gk 128 0 1 nU],(stV (eZ) (eZ) false 2),.si .i64 0,_,rfl,by decide,by decide,.cons (.told rfl) (.cons (.agg rfl) .nil),rfl,rfl,⟨[98],128,0,1,nU,((stV (eZ) (eZ) false 2),0),rfl,by decide,by decide,Xy,rfl,rfl⟩,?_⟩
 conv=>whnf
 refine⟨0,p,(stV (eZ) (eZ) false 2),[.ss [97],Gk 128 0 1 nU],(stV (eZ) (eZ) false 2),.si .i64 6,_,rfl,by decide,by decide,.cons (.told rfl) (.cons (.agg rfl) .nil),rfl,rfl,⟨[97],128,0,1,nU,((stV (eZ) (eZ) false 2),6),rfl,by decide,by decide,Xz,rfl,rfl⟩,?_⟩
 conv=>whnf
 refine⟨0,p,(stV (eZ) (eZ) false 2),[gR rK],(stV (eZ) (eZ) true 3),.si .i64 0,_,rfl,by decide,by decide,.cons (.agg rfl) .nil,rfl,rfl,⟨rK,((stV (eZ) (eZ) true 3),0),rfl,by decide,K1 (by decide) (by decide),XC,rfl,rfl⟩,?_⟩
 conv=>whnf
 refine⟨0,p,(stV (eZ) (eZ) true 3),[.ss [97],.agg [.si .i64 1,.si .i64 5],.si .i64 0],(stV (eK 1 [(1,5)]) (eZ) true 3),.si .i64 0,_,rfl,by decide,by decide,.cons (.told rfl) (.cons (.agg rfl) (.cons (.told rfl) .nil)),rfl,rfl,⟨[97],1,5,0,((stV (eK 1 [(1,5)]) (eZ) true 3),0),rfl,⟨by decide,by decide⟩,ye,K1 (by decide) (by decide),XE,rfl,rfl⟩,?_⟩
 conv=>whnf
 refine⟨0,p,(stV (eK 1 [(1,5)]) (eZ) true 3),[.ss [97],.agg [.si .i64 5,.si .i64 6],.si .i64 0],(stV (eK 5 [(1,5),(5,6)]) (eZ) true 3),.si .i64 0,_,rfl,by decide,by decide,.cons (.told rfl) (.cons (.agg rfl) (.cons (.told rfl) .nil)),rfl,rfl,⟨[97],5,6,0,((stV (eK 5 [(1,5),(5,6)]) (eZ) true 3),0),rfl,⟨by decide,by decide⟩,ye,K1 (by decide) (by decide),XF,rfl,rfl⟩,?_⟩
 conv=>whnf
 refine⟨0,p,(stV (eK 5 [(1,5),(5,6)]) (eZ) true 3),[.ss [98],OS],.tup [.fr (List.length []) 2 (smp []),.si .i64 0],rfl,by decide,by decide,.cons (.told rfl) (.cons (.agg rfl) .nil),rfl,rfl,⟨[98],.inr ⟨eZ,rfl,rfl,XH,rfl⟩⟩,?_⟩
 conv=>whnf
 refine⟨0,p,(stV (eK 5 [(1,5),(5,6)]) (eZ) true 3),[.ss [97],.si .i64 12,.si .i64 1],(stV (eK 12 [(1,5),(5,6),(12,7)]) (eK 0 [(0,11)]) true 3),.tup [.si .i64 7,.si .i64 0],_,rfl,by decide,by decide,.cons (.told rfl) (.cons (.told rfl) (.cons (.told rfl) .nil)),rfl,rfl,⟨[97],12,1,((stV (eK 12 [(1,5),(5,6),(12,7)]) (eK 0 [(0,11)]) true 3),7,0),rfl,ye,K1 (by decide) (by decide),YC,rfl,rfl⟩,?_⟩
 conv=>whnf
 refine⟨0,p,(stV (eK 12 [(1,5),(5,6),(12,7)]) (eK 0 [(0,11)]) true 3),[.ss [98],OS],.tup [.fr (List.length [(0,11)]) 2 (smp [(0,11)]),.si .i64 0],rfl,by decide,by decide,.cons (.told rfl) (.cons (.agg rfl) .nil),rfl,rfl,⟨[98],.inr ⟨eK 0 [(0,11)],rfl,rfl,XK,XM⟩⟩,?_⟩
 conv=>whnf
 refine⟨0,p,(stV (eK 12 [(1,5),(5,6),(12,7)]) (eK 0 [(0,11)]) true 3),[.ss [98],.agg [.si .i64 1,.si .i64 5],.si .i64 0],(stV (eK 12 [(1,5),(5,6),(12,7)]) (eK 0 [(0,11)]) true 3),.si .i64 10,_,rfl,by decide,by decide,.cons (.told rfl) (.cons (.agg rfl) (.cons (.told rfl) .nil)),rfl,rfl,⟨[98],1,5,0,((stV (eK 12 [(1,5),(5,6),(12,7)]) (eK 0 [(0,11)]) true 3),10),rfl,⟨by decide,by decide⟩,ye,K1 (by decide) (by decide),XG,rfl,rfl⟩,?_⟩
 conv=>whnf
 refine⟨0,p,(stV (eK 12 [(1,5),(5,6),(12,7)]) (eK 0 [(0,11)]) true 3),[.ss [97],.si .i64 5,.si .i64 5],(stV (eK 12 [(1,5),(12,7)]) (eK 0 [(0,5)]) true 3),.tup [.si .i64 1,.si .i64 0],_,rfl,by decide,by decide,.cons (.told rfl) (.cons (.told rfl) (.cons (.told rfl) .nil)),rfl,rfl,⟨[97],5,5,((stV (eK 12 [(1,5),(12,7)]) (eK 0 [(0,5)]) true 3),1,0),rfl,ye,K1 (by decide) (by decide),YD,rfl,rfl⟩,?_⟩
 conv=>whnf
 refine⟨0,p,(stV (eK 12 [(1,5),(12,7)]) (eK 0 [(0,5)]) true 3),[.ss [98],OS],.tup [.fr (List.length [(0,5)]) 2 (smp [(0,5)]),.si .i64 0],rfl,by decide,by decide,.cons (.told rfl) (.cons (.agg rfl) .nil),rfl,rfl,⟨[98],.inr ⟨eK 0 [(0,5)],rfl,rfl,XL,XN⟩⟩,?_⟩
 conv=>whnf
 refine⟨0,p,(stV (eK 12 [(1,5),(12,7)]) (eK 0 [(0,5)]) true 3),[.ss [97]],Xq (some (eK 12 [(1,5),(12,7)])),rfl,by decide,by decide,.cons (.told rfl) .nil,rfl,rfl,⟨[97],rfl,rfl⟩,?_⟩
 conv=>whnf
 refine⟨0,p,(stV (eK 12 [(1,5),(12,7)]) (eK 0 [(0,5)]) true 3),[.ss [99],q0],.tup [.nsl,.si .i64 5],rfl,by decide,by decide,.cons (.told rfl) (.cons (.agg rfl) .nil),rfl,rfl,⟨[99],.inl ⟨rfl,rfl,rfl⟩⟩,?_⟩
 conv=>whnf
 refine⟨0,p,(stV (eK 12 [(1,5),(12,7)]) (eK 0 [(0,5)]) true 3),[.ss [97],.ss [98]],(stV (eK 12 [(1,5),(12,7)]) (eK 0 [(0,5)]) false 3),.si .i64 0,_,rfl,by decide,by decide,.cons (.told rfl) (.cons (.told rfl) .nil),rfl,rfl,⟨[97],[98],((stV (eK 12 [(1,5),(12,7)]) (eK 0 [(0,5)]) false 3),0),rfl,YE,rfl,rfl⟩,?_⟩
 conv=>whnf
 iterate 9
  refine ae.dec (λ_=>?_) (λz=>absurd (by decide) z)
  conv=>whnf
 refine⟨[(0,11)],[(0,11)],.inr (.inl (.inr ⟨_,rfl,rfl,by decide⟩)),.inr (.inr ⟨_,_,_,_,_,_,rfl,.inr ⟨_,rfl⟩,rfl,rfl,by decide⟩),by decide,by decide,?_⟩
 conv=>whnf
 refine ae.sb (λ_=>?_) (λz=>absurd (XO.symm.trans z) (by decide))
 conv=>whnf
 iterate 4
  refine ae.dec (λ_=>?_) (λz=>absurd (by decide) z)
  conv=>whnf
 refine⟨[(0,5)],[(0,5)],.inr (.inl (.inr ⟨_,rfl,rfl,by decide⟩)),.inr (.inr ⟨_,_,_,_,_,_,rfl,.inr ⟨_,rfl⟩,rfl,rfl,by decide⟩),by decide,by decide,?_⟩
 conv=>whnf
 refine ae.sb (λ_=>?_) (λz=>absurd (XQ.symm.trans z) (by decide))
 conv=>whnf
 refine ae.sb (λ_=>?_) (λz=>absurd z (by decide))
 conv=>whnf
 iterate 3
  refine ae.dec (λ_=>?_) (λz=>absurd (by decide) z)
  conv=>whnf
 refine⟨0,p,(stV (eK 12 [(1,5),(12,7)]) (eK 0 [(0,5)]) false 3),[],.fr 0 5 [],rfl,by decide,by decide,.nil,rfl,rfl,⟨rfl,by rw[Xw];rfl⟩,?_⟩
 conv=>whnf
 iterate 1
  refine ae.dec (λ_=>?_) (λz=>absurd (by decide) z)
  conv=>whnf
 refine⟨0,p,(stV (eK 12 [(1,5),(12,7)]) (eK 0 [(0,5)]) false 3),[],.fr 2 1 (strs [[97],[98]]),rfl,by decide,by decide,.nil,rfl,rfl,⟨rfl,by rw[Vi];rfl⟩,?_⟩
 conv=>whnf
 refine⟨[.fr 2 1 (strs [[97],[98]]),.fr 2 1 (strs [[97],[98]])],.sb true,_,.cons .same (.cons (.sl rfl rfl rfl rfl) .nil),⟨[[97],[98]],[[97],[98]],rfl,by decide,rfl⟩,?_⟩
 conv=>whnf
 refine ae.sb (λ_=>?_) (λz=>absurd z (by decide))
 conv=>whnf
 refine⟨0,p,(stV (eK 12 [(1,5),(12,7)]) (eK 0 [(0,5)]) false 3),[97],_,rfl,by decide,by decide,.cons (.told rfl) .nil,rfl,rfl,.inr ⟨_,rfl,λd=>?_⟩⟩
 conv=>whnf
 refine⟨102,d,_,_,_,rfl,by decide,rfl,⟨by decide,rfl,rfl,rfl,rfl⟩,⟨rfl,rfl⟩,?_⟩
 conv=>whnf
 iterate 1
  refine ae.dec (λ_=>?_) (λz=>absurd (by decide) z)
  conv=>whnf
 refine⟨0,p,(stV (eK 12 [(1,5),(12,7)]) (eK 0 [(0,5)]) false 3),[.ss [97]],(jz (stV (eK 12 [(1,5),(12,7)]) (eK 0 [(0,5)]) false 3) [97]),.sb true,_,rfl,by decide,by decide,.cons (.told rfl) .nil,rfl,rfl,⟨[97],rfl,rfl,rfl⟩,?_⟩
 conv=>whnf
 refine ae.sb (λ_=>?_) (λz=>absurd z (by decide))
 conv=>whnf
 refine⟨0,p,(jz (stV (eK 12 [(1,5),(12,7)]) (eK 0 [(0,5)]) false 3) [97]),[.ss [97]],(jz (stV (eK 12 [(1,5),(12,7)]) (eK 0 [(0,5)]) false 3) [97]),.sb false,_,rfl,by decide,by decide,.cons (.told rfl) .nil,rfl,rfl,⟨[97],rfl,XR,XS⟩,?_⟩
 conv=>whnf
 exact rfl
end Go.Proofs.YtflehenfikoniaaGreat
end
