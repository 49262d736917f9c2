/- Texts of our own, joined: the engine, the machine that runs code, and what is known of the functions. -/
import Derived.Test.YtflehenfikoniaaGreatRows
import Derived.WalkKit
import Derived.Deep.Quiet
import Derived.ProofKit
import Derived.Laws.StructEq
import Derived.LaidEql
import Derived.Laws.BytesArg
import Derived.Maps.RangeRun
import Derived.RangeFuncSeq
import Derived.Scope
import Derived.Laws.Strings
import Derived.Laws.Strings2
import Derived.Below
import Derived.Carry
import Derived.OpenShut
import Derived.ChangeMaps5
import Derived.Deep.Slices
import Derived.Deep.SlicePairs
import Derived.SizedLaws
import Derived.Laws.BitsAllLaws
import Derived.RangeFuncRecord
import Derived.Test.YtflehenfikoniaaGreatJd
import Derived.Test.YtflehenfikoniaaGreatJc
set_option linter.unusedSimpArgs false
set_option linter.unusedVariables false
set_option maxHeartbeats 16000000
set_option maxRecDepth 100000
noncomputable section
namespace Go.Proofs.YtflehenfikoniaaGreat
open Go Go.RowKit
mutual
theorem Od:∀a:AV,ren (λb=>b) a=a
 | .agg l=>congrArg AV.agg (nQ l)
 | .tup l=>congrArg AV.tup (nQ l)
 | .fn f a c=>by simp only[ren,nQ a,nQ c]
 | .ptr _ _| .sl _ _ _ _ _| .esl _| .map _| .sy _ _ _ _ _| .rw _ _ _ _ _| .int _ _| .str _| .bool _| .nil| .nsl| .any _| .bad| .si _ _| .sb _| .ss _| .fr _ _ _| .fa _ _=>rfl
theorem nQ:∀l:List AV,dw (λb=>b) l=l
 | []=>rfl
 |a::l=>by simp only[dw,Od a,nQ l]
end
theorem BR:∀l:List (AV×AV),sq (λb=>b) l=l
 | []=>rfl
 |a::l=>by simp only[sq,Od,BR l]
theorem vF(o:AO):bT (λb=>b) o=o:=by
 cases o with
 |cells l z=>exact congrArg (AO.cells · z) (nQ l)
 |map es=>exact congrArg AO.map (BR es)
 |mp es bs cl=>exact congrArg (AO.mp · bs cl) (BR es)
 |ro l=>exact congrArg AO.ro (nQ l)
 |iter b k seen=>rfl
 |sep Q=>rfl
section
variable {K V:Type} [DecidableEq K]
def gG(k:K):List (K×V)->Nat->Option (Nat×V)
 | [],_=>none
 |e::A,i=>if k=e.1 then some (i,e.2)else gG k A (i+1)
def aG(A:List (K×V))(k:K):Option V:=(gG k A 0).map Prod.snd
theorem nR{k:K}:∀{A:List (K×V)} {i:Nat},gG k A i=none->∀e∈A,e.1≠k
 | [],_,_,e,h=>by cases h
 |a::A,i,h,e,b=>by
  unfold gG at h;split at h
  ·cases h
  ·rename_i c;rcases Z3.1 b with rfl|b
   ·exact λq=>c q.symm
   ·exact nR h e b
theorem gH{k:K}:∀{A:List (K×V)} {i j:Nat} {v:V},gG k A i=some (j,v)->i<=j/\A[j-i]?=some (k,v)
 | [],_,_,_,h=>by cases h
 |a::A,i,j,v,h=>by
  unfold gG at h;split at h
  ·rename_i d;injection h with h;injection h with c b;subst c b d;exact⟨Z6 _,by simp⟩
  ·obtain⟨c,b⟩:=gH h;refine⟨by omega,?_⟩;rw[show j-i=(j-(i+1))+1 by omega];simpa using b
theorem bM{A:List (K×V)}{k:K}{v:V}(h:aG A k=some v):(k,v)∈A:=by
 unfold aG at h;rw[Z8]at h;obtain⟨⟨i,u⟩,a,rfl⟩:=h;exact q0l (gH a).2
theorem p9{A:List (K×V)}{k:K}(h:aG A k=none):∀e∈A,e.1≠k:=by
 unfold aG at h;rw[q4c]at h;exact nR h
theorem cT{A:List (K×V)}{k:K}{v:V}(hn:(A.map Prod.fst).Nodup)(h:(k,v)∈A):aG A k=some v:=by
 cases e:aG A k with
 |none=>exact absurd rfl (p9 e _ h)
 |some u=>
  have f:=bM e;obtain⟨i,l,b⟩:=q2z h;obtain⟨j,m,a⟩:=q2z f;have:i=j:=(List.getElem_inj (xs:=A.map Prod.fst) (h₀:=by simpa using l) (h₁:=by simpa using m) hn).1 (by simp[b,a]);subst this;rw[b]at a;injection a with _ a;rw[a]
structure MpC (K V:Type)where
 A:List (K×V)
 bs:List Nat
 cl:Nat
structure MpC.Ok(m:MpC K V):Prop where
 len:m.bs.length=m.A.length
 nd:m.bs.Nodup
 lt:∀x∈m.bs,x<m.cl
 key:(m.A.map Prod.fst).Nodup
def MpC.no:MpC K V:=⟨[],[],0⟩
def MpC.put(m:MpC K V)(k:K)(v:V):MpC K V:=match gG k m.A 0 with
 |none=>⟨m.A++ [(k,v)],m.bs++ [m.cl],m.cl+1⟩
 |some (i,_)=>⟨m.A.set i (k,v),m.bs,m.cl⟩
def MpC.del(m:MpC K V)(k:K):MpC K V:=match gG k m.A 0 with
 |none=>m
 |some (i,_)=>⟨m.A.eraseIdx i,m.bs.eraseIdx i,m.cl⟩
theorem MpC.Ok.put{m:MpC K V}(h:m.Ok)(k:K)(v:V):(m.put k v).Ok:=by
 unfold MpC.put;split
 ·rename_i e;refine⟨by simp[h.len],?_,λx a=>?_,?_⟩
  ·rw[q3r];exact⟨h.nd,by simp,λx a y b=>by have:=h.lt x a;simp at b;subst b;show x≠m.cl;omega⟩
  ·rcases q1d.1 a with a|a
   ·have:=h.lt x a;show x<m.cl+1;omega
   ·simp at a;subst a;exact q1l _
  ·rw[q0m,q3r];refine⟨h.key,by simp,λx a y b=>?_⟩;simp at b;subst b;obtain⟨z,d,rfl⟩:=q0e.1 a;exact nR e z d
 ·rename_i i u e;refine⟨by simp[h.len],h.nd,h.lt,?_⟩;have c:=(gH e).2;rw[q3i]at c
  have:(m.A.set i (k,v)).map Prod.fst=m.A.map Prod.fst:=by
   rw[List.map_set];obtain⟨l,f⟩:=Y6.1 c;apply List.ext_getElem (by simp);intro j n o;rw[List.getElem_set];split
   ·rename_i q;subst q;simp[f]
   ·rfl
  show((m.A.set i (k,v)).map Prod.fst).Nodup;rw[this];exact h.key
theorem MpC.Ok.del{m:MpC K V}(h:m.Ok)(k:K):(m.del k).Ok:=by
 unfold MpC.del;split
 ·exact h
 ·rename_i i u e;refine⟨?_,h.nd.sublist (q4h _ _),λx a=>h.lt x ((q4h _ _).subset a),?_⟩
  ·show(m.bs.eraseIdx i).length=(m.A.eraseIdx i).length;rw[List.length_eraseIdx,List.length_eraseIdx,h.len]
  ·show((m.A.eraseIdx i).map Prod.fst).Nodup;exact h.key.sublist ((q4h _ _).map _)
theorem nS{m:MpC K V}{k:K}{v:V}{e:K×V}(h:e∈(m.put k v).A):e=(k,v)∨e∈m.A:=by
 unfold MpC.put at h;split at h
 ·rcases q1d.1 h with h|h
  ·exact .inr h
  ·simp at h;exact .inl h
 ·exact(List.mem_or_eq_of_mem_set h).symm
theorem BS{m:MpC K V}{k:K}{e:K×V}(h:e∈(m.del k).A):e∈m.A:=by
 unfold MpC.del at h;split at h
 ·exact h
 ·exact(q4h _ _).subset h
theorem x9{m:MpC K V}(h:m.Ok)(k:K)(v:V)(x:K):aG (m.put k v).A x=if x=k then some v else aG m.A x:=by
 have d:=(h.put k v).key
 have dQ:∀e∈m.A,e.1≠k->e∈(m.put k v).A:=λe f l=>by
  unfold MpC.put;split
  ·exact q2d _ f
  ·rename_i i u b;obtain⟨j,n,o⟩:=q2z f;have a:=(gH b).2;rw[q3i]at a
   have c:i≠j:=λq=>by
    subst q;rw[Y0 n,o]at a;injection a with a;rw[a]at l;exact l rfl
   show e∈m.A.set i (k,v);rw[<-o];exact q1s.2 ⟨j,by simpa using n,by rw[List.getElem_set_ne c]⟩
 have new:(k,v)∈(m.put k v).A:=by
  unfold MpC.put;split
  ·simp
  ·rename_i i u b;have a:=(gH b).2;rw[q3i]at a;obtain⟨r,_⟩:=Y6.1 a;exact q1s.2 ⟨i,by simpa using r,by simp⟩
 split
 ·rename_i e;subst e;exact cT d new
 ·rename_i p;cases e:aG m.A x with
  |some u=>exact cT d (dQ _ (bM e) p)
  |none=>
   cases b:aG (m.put k v).A x with
   |none=>rfl
   |some w=>
    rcases nS (bM b)with q|q
    ·injection q with q _;exact absurd q p
    ·exact absurd rfl (p9 e _ q)
theorem Es{m:MpC K V}(h:m.Ok)(k x:K):aG (m.del k).A x=if x=k then none else aG m.A x:=by
 have r:=(h.del k).key;split
 ·rename_i e;subst e;cases b:aG (m.del x).A x with
  |none=>rfl
  |some u=>
   have c:=bM b;unfold MpC.del at c;split at c
   ·rename_i e;exact absurd rfl (nR e _ c)
   ·rename_i i w e;have a:=(gH e).2;rw[q3i]at a;obtain⟨s,t⟩:=Y6.1 a;obtain⟨j,d,f⟩:=List.mem_eraseIdx_iff_getElem.1 c;have:i=j:=(List.getElem_inj (xs:=m.A.map Prod.fst) (h₀:=by simpa using s) (h₁:=by simpa using d) h.key).1 (by simp[t,f.2]);exact absurd this.symm f.1
 ·rename_i v;cases e:aG m.A x with
  |some u=>
   refine cT r ?_;have o:=bM e;unfold MpC.del;split
   ·exact o
   ·rename_i i w b;have a:=(gH b).2;rw[q3i]at a;obtain⟨j,d,p⟩:=q2z o;refine List.mem_eraseIdx_iff_getElem.2 ⟨j,d,λq=>?_,p⟩;subst q;rw[Y0 d,p]at a;injection a with a;injection a with a;exact v a
  |none=>
   cases b:aG (m.del k).A x with
   |none=>rfl
   |some w=>exact absurd rfl (p9 e _ (BS (bM b)))
end
theorem MpC.ya{K V:Type}:(MpC.no:MpC K V).Ok:=⟨rfl,.nil,λx h=>(by cases h),.nil⟩
section
variable {K V:Type} [DecidableEq K] {kA:K->AV} {g:V->AV} {kd:TypeDesc}
def jc(kA:K->AV)(g:V->AV)(A:List (K×V)):List (AV×AV):=A.map λe=>(kA e.1,g e.2)
def MpC.O(kA:K->AV)(g:V->AV)(m:MpC K V):AO:= .mp (jc kA g m.A) m.bs m.cl
structure yb(kA:K->AV)(kd:TypeDesc):Prop where
 same:∀a b,CG kd (kA a) (kA b)=some (decide (a=b))
 ok:∀a,AI kd (kA a)=true
theorem qa(a:yb kA kd)(k:K):∀(A:List (K×V)) (i:Nat),mD kd (kA k) (jc kA g A) i=some ((gG k A i).map λr=>(r.1,g r.2))
 | [],i=>by
  show(match AI kd (kA k)with|true=>some none|false=>none)=_;rw[a.ok];rfl
 |e::A,i=>by
  show(match CG kd (kA k) (kA e.1)with|some true=>some (some (i,g e.2))|some false=>mD kd (kA k) (jc kA g A) (i+1)|none=>none)=_;rw[a.same];unfold gG;by_cases q:k=e.1
  ·rw[if_pos q,decide_eq_true q];rfl
  ·rw[if_neg q,decide_eq_false q];exact qa a k A (i+1)
def lkV(ok:Bool)(z:AV)(r:Option AV):AV:=match ok,r with
 |true,some v=> .tup [v,.bool true]
 |false,some v=>v
 |true,none=> .tup [z,.bool false]
 |false,none=>z
theorem Q1{P:Program}{t c a:TypeId}{H:AH}{b:Nat}{m:MpC K V}{k:K}{ok:Bool}{z:Value}{x y:AV}(d:yb kA kd)(e:dM P t=some (c,kd,a))(f:x= .map b)(h:y=kA k)(i:H.get b=some (m.O kA g))(j:cZ P a=some z):jC P t x y ok H=some (lkV ok (ofV z) ((aG m.A k).map g)):=by
 subst f h;unfold jC;rw[e];dsimp only;rw[i];show tH P kd a (kA k) ok (jc kA g m.A)=_;unfold tH;rw[qa d];unfold aG;cases gG k m.A 0 with
 |none=>simp only[q2l,j];cases ok<;>rfl
 |some r=>cases ok<;>rfl
theorem rD{P:Program}{t a c:TypeId}{H:AH}{n b:Nat}{m:MpC K V}{k:K}{v:V}{x y u:AV}(d:yb kA kd)(f:dM P t=some (a,kd,c))(j:x= .map b)(l:y=kA k)(o:u=g v)(p:H.get b=some (m.O kA g)):lQ P t x y u H n=some (cg,H.set (some ((m.put k v).O kA g)) aa b,n):=by
 subst j l o;unfold lQ;rw[f];dsimp only;rw[p];show(match mD kd (kA k) (jc kA g m.A) 0 with|some none=>_|some (some y)=>_|none=>none)=_;rw[qa d]
 have q:∀A:List (K×V),lO (kA k) (g v) (jc kA g A) none=jc kA g (A++ [(k,v)]):=λA=>by
  have:lO (kA k) (g v) (jc kA g A) none=jc kA g A++ [(kA k,g v)]:=by cases A<;>rfl
  rw[this];unfold jc;rw[q0m];rfl
 have s:∀(A:List (K×V)) (i:Nat) (w:AV),lO (kA k) (g v) (jc kA g A) (some (i,w))=jc kA g (A.set i (k,v)):=λA=>by
  induction A with
  |nil=>intro i w;rfl
  |cons e A z=>
   intro i w;cases i with
   |zero=>rfl
   |succ i=>show _::lO (kA k) (g v) (jc kA g A) (some (i,w))=_;rw[z];rfl
 unfold MpC.put;cases h:gG k m.A 0 with
 |none=>simp only[q2l,q];rfl
 |some r=>obtain⟨i,w⟩:=r;simp only[q0h,s];rfl
theorem um{P:Program}{t a c:TypeId}{H:AH}{n b:Nat}{m:MpC K V}{k:K}{x y:AV}(d:yb kA kd)(e:dM P t=some (a,kd,c))(f:x= .map b)(j:y=kA k)(l:H.get b=some (m.O kA g)):Fj P t x y H n=some (.tup [],H.set (some ((m.del k).O kA g)) aa b,n):=by
 subst f j;unfold Fj;rw[e];dsimp only;rw[l];show(match mD kd (kA k) (jc kA g m.A) 0 with|some none=>_|some (some (i,_))=>_|none=>none)=_;rw[qa d];unfold MpC.del;cases h:gG k m.A 0 with
 |none=>rfl
 |some r=>
  obtain⟨i,w⟩:=r;show some (AV.tup [],H.set (some (AO.mp ((jc kA g m.A).eraseIdx i) (m.bs.eraseIdx i) m.cl)) aa b,n)=_;unfold jc;rw[<-tR];rfl
end
section
variable {K V:Type} {kA:K->AV} {g:V->AV}
theorem al{m:MpC K V}{j:Nat}(a:∀k,ltV j (kA k)=true)(b:∀v,ltV j (g v)=true):ltO j (m.O kA g)=true:=by
 show ltE j (jc kA g m.A)=true;unfold jc
 induction m.A with
 |nil=>rfl
 |cons e A c=>show(ltV j (kA e.1)&&(ltV j (g e.2)&&ltE j (jc kA g A)))=true;rw[a,b];exact c
theorem qb{A:List (K×V)}{i:Nat}{e:AV×AV}(h:(jc kA g A)[i]?=some e):∃f:i<A.length,e=(kA A[i].1,g A[i].2):=by
 unfold jc at h;rw[q0s,Z8]at h;obtain⟨x,a,b⟩:=h;obtain⟨c,d⟩:=Y6.1 a;subst d;exact⟨c,b.symm⟩
theorem an.GA{H:AH}{j:Nat}{r:Nat->Nat}:an H j r (.map []) ((MpC.no:MpC K V).O kA g):=⟨⟨rfl,rfl⟩,λe f p h _ _ ⟨ms,cl,b,a,c⟩=>by
 have a:ms.toList=[]:=a;have d:cl=0:=by rw[c.1,a];rfl
 subst d;exact⟨ms,b,a,by rw[a];rfl⟩⟩
end
def kT(s:Tx):AV:= .str s
def kL(y:Lab):AV:= .agg [.str y.1,.str y.2]
theorem bP:yb kT .string:=⟨λa b=>congrArg some (by rw[q2r,bk,decide_eq_true_eq]),λ_=>rfl⟩
theorem IE{c:Array Field}(h:kh c=[(1,0),(1,1)]):yb kL (.struct c):=by
 have e:∀a b:Lab,(dh a.1 b.1&&(dh a.2 b.2&&true))=decide (a=b):=λa b=>by
  rw[q2r,Z7,Z7,bk,bk,decide_eq_true_eq,Prod.ext_iff];simp
 refine⟨λa b=>?_,λa=>?_⟩
 ·show(match jJ [AV.str a.1,.str a.2] [.str b.1,.str b.2] (kh c),wm [AV.str a.1,.str a.2] [.str b.1,.str b.2]with|some p,some q=>if p=q then some q else none|_,_=>none)=_;rw[h];show(if(dh a.1 b.1&&(dh a.2 b.2&&true))=(dh a.1 b.1&&(dh a.2 b.2&&true))then some (dh a.1 b.1&&(dh a.2 b.2&&true))else none)=_;rw[if_pos rfl,e]
 ·show(jJ [AV.str a.1,.str a.2] [.str a.1,.str a.2] (kh c)).isSome=true;rw[h];rfl
theorem Re.opt{H:AH}{n k:Nat}{a:Type}{g:List a->AV}(b:g []= .fr 0 k [])(r:Option (List a)):Re H n (lkV false .nsl (r.map g)) H (g (r.getD [])):=by
 cases r with
 |none=>show Re H n .nsl H (g []);rw[b];exact .nsl
 |some v=>exact .same
def gT{X C:Type}(k:Nat)(B:Obj X C)(R:X->List AV->X->AV->Prop)(args:List AV)(H:AH)(n:Nat)(κ:PK):Prop:=match args with
 |a::f=>∃x cs d v b c,a= .ptr 0 0/\k<=n/\Res H n f b cs/\B.ok x c/\(∀i o,(B.O c)[i]?=some o->b.get i=some o)/\R x cs d v/\∀e,B.ok d e->κ v (sU (B.O e) 0 b) n
 |_=>False
theorem u4 {X C:Type} {f:FuncId} {run:List AV->AH->Nat->PK->Prop} (A:ai f run) (I:bR Tryz.prog f=true) (B:Obj X C) {k:Nat} (hk:B.k=k) (hk9:k<1000) {R:X->List AV->X->AV->Prop}
 (h:∀x cs l v,R x cs l v->cs.all gy=true/\gy v=true/\∀c,B.ok x c->run (.ptr 0 0::cs) (mkH (bF (B.O c) 0)) k (gz B l v)):ai f (gT k B R):=λargs H n κ F φ J L vs K M p P=>by
 unfold gT at F;split at F
 ·rename_i a ar;obtain⟨x,cs,l,v,T,c,rfl,hkn,D,hc,U,hR,W⟩:=F;obtain⟨w1,Y,q1,e1,r1⟩:=p.cons_inv;subst hk;obtain⟨Z,l1,hr1,ha1⟩:=D φ J L Y M r1;obtain⟨s1,s2,s3⟩:=h x cs l v hR;have t:=s3 c hc;have E:∀{o:AO} {N:Nat},ltO B.k o=true->bT (bz (kI 0 B.k) N) o=o:=λ{o N} ho=>(eG (r':=λb=>b) (m:=B.k) (λj hj=>(mr hj).trans (q0w j)) ho).trans (vF o)
  have xt:iZ T n (kI 0 B.k) (B.O c):=⟨nO _ _,by rw[dg,B.len],λi s o h1 h2=>by
   obtain⟨h3,rfl⟩:=pw h1;obtain⟨_,h4,h5⟩:=B.lt c h2;refine⟨by omega,?_,.inr h4⟩;rw[q0w,U i o h2,E h5]⟩
  refine dq (S:=kI 0 B.k) (O:=B.O c) (args0:= .ptr 0 0::cs) (κ:=λv2 H2 n2=>v2=v/\n2=n/\∃d,B.ok l d/\H2=sU (B.O d) 0 T) A.m I hr1 xt ?_ ?_ (Q:=λv' H' m=>v'=v/\m=B.k/\∃d,B.ok l d/\H'=mkH (bF (B.O d) 0)) ?_ λu H' n' hq=>?_
  ·rw[q1];refine .cons ?_ ?_
   ·show VR Z (.ptr (bz (kI 0 B.k) n 0) 0) w1;rw[mr (B.k0 c)];exact VR.mono l1 _ _ e1
   ·rw[kU s1];exact ha1
  ·intro χ v2 H2 n2 u g hle hg hu ⟨f1,f2,d,f3,f4⟩;subst f1 f2 f4;exact P χ _ _ _ u g (l1.trans hle) hg hu (W d f3)
  ·refine⟨gz B l v,by rw[dg];exact t,λu H' n' ⟨H2,d,g1,g2,g3⟩=>⟨v,mkH (bF (B.O d) 0),B.k,λχ J L w M hu=>?_,rfl,rfl,d,g2,rfl⟩⟩;obtain⟨ψ1,m1,hr3,hu3⟩:=g1 χ J L w M hu;obtain⟨ψ2,G,hr4⟩:=BQ hr3 g3 (by rw[B.len];exact Z6 _);rw[dg];exact⟨ψ2,⟨λy q hy e=>G.1 y q hy (m1.b y q e),λq e=>G.2.1 q (m1.z q e),λq e=>m1.y q (G.2.2 q e)⟩,hr4,nN G.2.1 s2 hu3⟩
  ·obtain⟨g1,g2,d,g3,g4⟩:=hq;subst g1 g2 g4;refine⟨B.k,sU (B.O d) 0 T,by rw[dg];exact Z6 _,λy o hy=>?_,(jb (r:=λb=>b) s2).2,(jb (m:=0) s2).1,by rw[dg];omega,d,g3,rfl⟩;rcases mR hy with⟨i,rfl,i1⟩|⟨i2,i3⟩
   ·obtain⟨j1,j2,j3⟩:=B.lt d i1;have:=sV (k:=0) (by rw[B.len];omega) i1;rw[q0w]at this⊢;exact .inl ⟨i,o,j1,by rw[mr j1,q0w],this,j2,j3,(E j3).symm⟩
   ·rw[B.len]at i2;exact .inr ⟨by rw[dg];omega,i3,λq=>by have:=ib q;omega⟩
 ·exact F.elim
section
variable {K V:Type} [DecidableEq K]
def eg(A:List (K×V))(k:K)(v:V):List (K×V):=match gG k A 0 with
 |none=>A++ [(k,v)]
 |some (i,_)=>A.set i (k,v)
def du(A:List (K×V))(k:K):List (K×V):=match gG k A 0 with
 |none=>A
 |some (i,_)=>A.eraseIdx i
theorem Et(m:MpC K V)(k:K)(v:V):(m.put k v).A=eg m.A k v:=by unfold MpC.put eg;split<;>simp_all
theorem yc(m:MpC K V)(k:K):(m.del k).A=du m.A k:=by unfold MpC.del du;split<;>simp_all
theorem qc{A:List (K×V)}{k:K}(h:aG A k=none):du A k=A:=by
 unfold aG at h;rw[q4c]at h;unfold du;rw[h]
theorem bd{kA:K->AV}{g:V->AV}{a:TypeDesc}{P:Program}{t d c:TypeId}{H:AH}{b:Nat}{m:MpC K V}{k:K}{ok:Bool}{z:Value}{x y:AV}{r:Option V}(e:yb kA a)(f:dM P t=some (d,a,c))(h:x= .map b)(i:y=kA k)(j:H.get b=some (m.O kA g))(l:cZ P c=some z)(n:aG m.A k=r):jC P t x y ok H=some (lkV ok (ofV z) (r.map g)):=by subst n;exact Q1 e f h i j l
end
theorem mf:∀(A B:List Tx),(bA false A B).length<=A.length
 | [],B=>by rw[gB];simp
 |a::A,[]=>by rw[gC];simp
 |a::A,b::B=>by
  by_cases h:leS a b=true
  ·by_cases k:leS b a=true
   ·have:=mf A B;rw[mW A B h k];simp only[q2b,if_false,q2f,Z9];omega
   ·have:=mf A (b::B);rw[mV A B h k];simp only[Z9];omega
  ·have:=mf (a::A) B;rw[mX A B h];simpa using this
termination_by A B=>A.length+B.length
theorem IF(V:List Tx)(s:Tx):(Gx V s).length<=V.length:=Y7 (mf _ _) (cu V)
def gL(l:List Lab):AV:= .fr l.length 2 (dj l)
def gS(V:List Tx):AV:= .fr V.length 1 (strs V)
structure Ix where
 A:List (Tx×List Lab)
 w:Nat
abbrev IxC:=MpC Tx (List Lab)×MpC Lab (List Tx)×MpC Tx (List Tx)
def ixO(c:IxC):List AO:=[.cells [.map 1,.map 2,.map 3] true,c.1.O kT gL,c.2.1.O kL gS,c.2.2.O kT gS]
def Rows{K:Type}(m:MpC K (List Tx))(w:Nat):Prop:=∀e∈m.A,e.2.length<=w
structure Oe(x:Ix)(c:IxC):Prop where
 A:c.1.A=x.A
 o1:c.1.Ok
 o2:c.2.1.Ok
 o3:c.2.2.Ok
 r2:Rows c.2.1 x.w
 r3:Rows c.2.2 x.w
 lab:∀e∈x.A,iK e.1=true/\dS e.2=true
theorem aO{j:Nat}(k:Tx):ltV j (kT k)=true:=rfl
theorem pE{j:Nat}(k:Lab):ltV j (kL k)=true:=rfl
theorem pF{j:Nat}(l:List Lab):ltV j (gL l)=true:=rfl
theorem fU{j:Nat}(V:List Tx):ltV j (gS V)=true:=rfl
def IxB:Obj Ix IxC where
 ok:=Oe
 O:=ixO
 k:=4
 len _:=rfl
 own c o h:=by
  simp only[ixO,Z3,Z4,or_false]at h;rcases h with rfl|rfl|rfl|rfl
  ·exact⟨rfl,rfl⟩
  ·exact⟨rfl,al aO pF⟩
  ·exact⟨rfl,al pE fU⟩
  ·exact⟨rfl,al aO fU⟩
 pos c:=⟨_,_,_,rfl⟩
theorem s6{H:AH}{c:IxC}(a:H.get 0=some (.cells [.map 1,.map 2,.map 3] true))(b:H.get 1=some (c.1.O kT gL))(d:H.get 2=some (c.2.1.O kL gS))(e:H.get 3=some (c.2.2.O kT gS)):xW H 4 (ixO c) 0:=
 ⟨⟨_,a,.refl rfl⟩,⟨_,b,.refl (al aO pF)⟩,⟨_,d,.refl (al pE fU)⟩,⟨_,e,.refl (al aO fU)⟩,trivial⟩
theorem mkA:dM Tryz.prog 162=some (9,.string,28):=by kernel_rfl
theorem mkN:dM Tryz.prog 164=some (9,.string,58):=by kernel_rfl
theorem mkL:∃a,dM Tryz.prog 163=some (100,.struct a,58)/\kh a=[(1,0),(1,1)]:=⟨Tryz.prog.fieldsOf 100,by kernel_rfl,by kernel_rfl⟩
theorem GB:cZ Tryz.prog 28=some (.slice none 0 0):=by kernel_rfl
theorem zTx:cZ Tryz.prog 58=some (.slice none 0 0):=by kernel_rfl
section
variable {K:Type} [DecidableEq K] {m:MpC K (List Tx)} {w:Nat}
theorem Rows.get(h:Rows m w)(k:K):((aG m.A k).getD []).length<=w:=by
 cases e:aG m.A k with
 |none=>simp
 |some V=>exact h _ (bM e)
theorem Rows.put(h:Rows m w){k:K}{V:List Tx}(b:V.length<=w):Rows (m.put k V) w:=λe a=>by
 rcases nS a with rfl|a
 ·exact b
 ·exact h e a
theorem Rows.del(h:Rows m w){k:K}:Rows (m.del k) w:=λe a=>h e (BS a)
end
theorem Rows.le{K:Type}{m:MpC K (List Tx)}{w:Nat}(h:Rows m w){w':Nat}(a:w<=w'):Rows m w':=λe b=>Y7 (h e b) a
def s7{K:Type} [DecidableEq K](m:MpC K (List Tx))(k:K)(V:List Tx):MpC K (List Tx):=if V.length=0 then m.del k else m.put k V
theorem vG{K:Type} [DecidableEq K]{m:MpC K (List Tx)}{w:Nat}{k:K}{V:List Tx}(h:m.Ok)(a:Rows m w)(b:V.length<=w):(s7 m k V).Ok/\Rows (s7 m k V) w:=by
 unfold s7;split
 ·exact⟨h.del k,a.del⟩
 ·exact⟨h.put k V,a.put b⟩
def z9{K:Type} [DecidableEq K](kA a:K->AV)(args:List AV)(H:AH)(n:Nat)(κ:PK):Prop:=match args with
 | [x,y,z]=>∃(b:Nat) (m:MpC K (List Tx)) (k:K) (V:List Tx),x= .map b/\b<n/\n<900000/\y=a k/\z=gS V/\H.get b=some (m.O kA gS)/\κ (.tup []) (H.set (some ((s7 m k V).O kA gS)) aa b) n
 |_=>False
theorem Of {K:Type} [DecidableEq K] {kA g:K->AV} (E:∀k,gy (g k)=true) (C:∀k j,ltV j (kA k)=true) {f:FuncId} {run:List AV->AH->Nat->PK->Prop} (p:ai f run) (y:bR Tryz.prog f=true)
 (h:∀(m:MpC K (List Tx)) (k:K) (V:List Tx),run [.map 0,g k,gS V] (mkH [(0,m.O kA gS)]) 1 λu H' _=>u= .tup []/\H'.get 0=some ((s7 m k V).O kA gS)):ai f (z9 kA g):=λargs H n D v P Q R T K F d G=>by
 unfold z9 at v;split at v
 ·obtain⟨b,m,k,V,rfl,z,U,rfl,rfl,I,A⟩:=v
  have t:∀{o:AO} {r:Nat->Nat},(∃m:MpC _ (List Tx),o=m.O kA gS)->bT r o=o:=λ{o r} ⟨m,e⟩=>by
   subst e;exact(eG (m:=0) (λc J=>absurd J (q1k c)) (al (λk=>C k 0) fU)).trans (vF _)
  refine dq (S:=[b]) (O:=[m.O kA gS]) (args0:=[.map 0,g k,gS V]) (κ:=D) p y F ⟨by simp,rfl,λi s o l a=>?_⟩ ?_ G (h m k V) λu H' W ⟨L,M⟩=>?_
  ·cases i with
   |zero=>injection l with l;injection a with a;subst l a;exact⟨z,I.trans (congrArg some (t ⟨m,rfl⟩).symm),.inr rfl⟩
   |succ i=>simp at l
  ·have e:dw (bz [b] n) [.map 0,g k,gS V]=[.map b,g k,gS V]:=by simp only[dw,(jb (m:=0) (E k)).1];rfl
   rw[e];exact d
  ·subst L;refine⟨1,H.set (some ((s7 m k V).O kA gS)) aa b,Z6 1,λx o N=>?_,rfl,A⟩;rcases PM.ak aa H b x o N with⟨rfl,a⟩|⟨l,a⟩
   ·injection a with a;subst a;exact .inl ⟨0,_,Nat.zero_lt_one,rfl,M,rfl,al (λk=>C k 1) fU,(t ⟨_,rfl⟩).symm⟩
   ·exact .inr ⟨by simp;omega,a,λq=>absurd (by simpa using q) l⟩
 ·exact v.elim
def kTs(s:Tx):AV:= .ss s
def kLs(y:Lab):AV:= .agg [.ss y.1,.ss y.2]
theorem IG{K:Type} [DecidableEq K]{m:MpC K (List Tx)}{k:K}{V:List Tx}{kA:K->AV}:((V.length:Int)=0->(m.del k).O kA gS=(s7 m k V).O kA gS)/\(¬(V.length:Int)=0->(m.put k V).O kA gS=(s7 m k V).O kA gS):=
 ⟨λh=>by unfold s7;rw[if_pos (by omega)],λh=>by unfold s7;rw[if_neg (by omega)]⟩
theorem UI:ai 127 (z9 kT kTs):=Of (λ_=>rfl) (λ_ _=>rfl) (ax az 3 _) (by kernel_rfl) λm k V=>by
 have q:=IG (m:=m) (k:=k) (V:=V) (kA:=kT)
 conv=>whnf
 refine ah.dec (λz=>?_) (λz=>?_)
 ·have e:=q.1 z
  conv=>whnf
  refine Ask.mk _ (um (m:=m) (g:=gS) bP mkN rfl rfl rfl) ?_
  conv=>whnf
  exact⟨rfl,congrArg some e⟩
 ·have e:=q.2 z
  conv=>whnf
  refine Ask.mk _ (rD (m:=m) (g:=gS) bP mkN rfl rfl rfl rfl) ?_
  conv=>whnf
  exact⟨rfl,congrArg some e⟩
theorem UJ:ai 125 (z9 kL kLs):=Of (λ_=>rfl) (λ_ _=>rfl) (ax az 3 _) (by kernel_rfl) λm k V=>by
 have q:=IG (m:=m) (k:=k) (V:=V) (kA:=kL);obtain⟨d,a,b⟩:=mkL
 conv=>whnf
 refine ah.dec (λz=>?_) (λz=>?_)
 ·have e:=q.1 z
  conv=>whnf
  refine Ask.mk _ (um (m:=m) (g:=gS) (IE b) a rfl rfl rfl) ?_
  conv=>whnf
  exact⟨rfl,congrArg some e⟩
 ·have e:=q.2 z
  conv=>whnf
  refine Ask.mk _ (rD (m:=m) (g:=gS) (IE b) a rfl rfl rfl rfl) ?_
  conv=>whnf
  exact⟨rfl,congrArg some e⟩
def ixD (k:Tx) (l:List Lab) (i:Nat) (c:IxC):AE×AH:=(mkE [(0,.ptr 0 (0)),(1,.ss (k)),(16,.fr l.length 2 (dj l)),(17,.si .i64 ((l.length:Int))),(18,.si .i64 ((i:Int)))],mkH [(0,.cells [.map 1,.map 2,.map 3] true),(1,c.1.O kT gL),(2,c.2.1.O kL gS),(3,c.2.2.O kT gS)])
def Og:DT:=[(6,[(some 0,[0]),(some 0,[22]),(some 0,[23]),(some 0,[24]),(some 0,[6]),(some 0,[0]),(some 0,[27]),(some 0,[28]),(some 0,[29]),(some 0,[6]),(some 0,[30,31]),(some 0,[1]),(none,[32,33])]),
 (7,[(some 0,[0]),(some 0,[36]),(some 0,[37]),(some 0,[38]),(some 0,[6]),(some 0,[40]),(some 0,[0]),(some 0,[42]),(some 0,[43]),(some 0,[44]),(some 0,[6]),(some 0,[46]),(some 0,[45,47]),(some 0,[1]),(none,[48,49])])]
def KIx:FuncId->EP:=cV 166 (uZ UE) (cV 126 (uZ WV) (cV 167 (uZ SI) (aq 105 (cW Eo) (aq 106 (cW UG) (aq 124 (cW UF) (aq 127 (z9 kT kTs) (aq 125 (z9 kL kLs) evP)))))))
theorem GC:aW KIx:=ba (ba (ba (ae (ae (ae (ae (ae az UJ) UI) SH) WY) IC) W0.cs (xV _)) Yt.cs (xV _)) WW.cs (xV _)
def KId:FuncId->EP:=bg 68 Og KIx
theorem Oh:aW KId:=aw GC (by kernel_rfl) (by kernel_rfl)
def Q6(x:Ix)(cs:List AV)(a:Ix)(v:AV):Prop:=∃k,cs=[.ss k]/\x.w<900000/\a=⟨du x.A k,x.w⟩/\v= .sb (aG x.A k).isSome
theorem yd(x:Ix)(k:Tx)(c:IxC)(G:Oe x c)(o:x.w<900000):ay KId 5 68 [.ptr 0 0,.ss k] (mkH (bF (ixO c) 0)) 4 (gz IxB ⟨du x.A k,x.w⟩ (.sb (aG x.A k).isSome)):=by
 obtain⟨T,H,I⟩:=mkL;obtain⟨v,z,B,C,p,r,f⟩:=G;obtain⟨A,w⟩:=x;dsimp only at v p r f o⊢;subst v;cases d:aG c.1.A k with
 |none=>
  have e:=qc d;have q:gz IxB ⟨du c.1.A k,w⟩ (.sb false) (.bool false) (mkH (bF (ixO c) 0)) 4:=⟨_,c,.told rfl,⟨e.symm,z,B,C,p,r,by rw[e];exact f⟩,s6 rfl rfl rfl rfl⟩
  conv=>whnf
  refine Ask.mk _ (bd bP mkA rfl rfl rfl GB d) ?_
  conv=>whnf
  exact q
 |some l=>
  have J:l.length<=8:=nP (f _ (bM d)).2
  conv=>whnf
  refine Ask.mk _ (bd bP mkA rfl rfl rfl GB d) ?_
  conv=>whnf
  refine Ask.mk _ (bd bP mkA rfl rfl rfl GB d) ?_
  conv=>whnf
  refine aQ.mk {t:Nat×MpC Lab (List Tx)×MpC Tx (List Tx)//t.1<=l.length/\(t.2.1.Ok/\Rows t.2.1 w)/\t.2.2.Ok/\Rows t.2.2 w} 4 (λt=>ixD k l t.val.1 (c.1,t.val.2)) (λt=>l.length-t.val.1) ⟨(0,c.2),Y5 _,⟨B,p⟩,C,r⟩ ?_ ?_
  focus
   exact Cov.ofN [] ⟨sP,sS,ab.frE rfl,sI,sI,trivial⟩ ⟨oF,oF (al aO pF),oF (al pE fU),oF (al aO fU),trivial⟩
  intro⟨(i,a,b),D,⟨E,j⟩,F,n⟩;have D:i<=l.length:=D;have L:IntKind.i64.wrap ((i:Int)+1)=((i+1:Nat):Int):=by rw[aj (by omega) (by omega)];omega
  conv=>whnf
  refine ah.dec (λh=>?_) (λh=>?_)
  focus
   have s:i<l.length:=q0t.1 h;have u:l.length-(i+1)<l.length-i:=by omega
   have M:(Gx ((aG a.A l[i]).getD []) k).length<=w:=Y7 (IF _ _) (j.get _);have N:(Gx ((aG b.A l[i].1).getD []) k).length<=w:=Y7 (IF _ _) (n.get _);have O:((aG a.A l[i]).getD []).length<1000000:=Nat.lt_of_le_of_lt (j.get _) (by omega);have P:((aG b.A l[i].1).getD []).length<1000000:=Nat.lt_of_le_of_lt (n.get _) (by omega);have Q:=vG (k:=l[i]) E j M;have R:=vG (k:=l[i].1) F n N
   conv=>whnf
   refine Idx.mk i rfl s ?_
   conv=>whnf
   refine au (pC s rfl) ?_
   conv=>whnf
   refine Ask.mk _ (bd (m:=a) (g:=gS) (k:=l[i]) (IE I) H rfl rfl rfl zTx rfl) ?_
   conv=>whnf
   refine⟨_,_,.cons (.opt (g:=gS) rfl _) (.cons .same .nil),⟨_,_,rfl,O,rfl⟩,?_⟩
   conv=>whnf
   refine⟨2,a,l[i],_,rfl,by decide,by decide,rfl,rfl,rfl,?_⟩
   conv=>whnf
   refine Ask.mk _ (bd (m:=b) (g:=gS) (k:=l[i].1) bP mkN rfl rfl rfl zTx rfl) ?_
   conv=>whnf
   refine⟨_,_,.cons (.opt (g:=gS) rfl _) (.cons .same .nil),⟨_,_,rfl,P,rfl⟩,?_⟩
   conv=>whnf
   refine⟨3,b,l[i].1,_,rfl,by decide,by decide,rfl,rfl,rfl,?_⟩
   conv=>whnf
   exact⟨⟨(i+1,s7 a l[i] (Gx ((aG a.A l[i]).getD []) k),s7 b l[i].1 (Gx ((aG b.A l[i].1).getD []) k)),s,Q,R⟩,u,Cov.ofN [] ⟨sP,sS,ab.frE rfl,sI,sI (congrArg (AV.si .i64) L),trivial⟩ ⟨oF,oF (al aO pF),oF (al pE fU),oF (al aO fU),trivial⟩⟩
  have e:(c.1.del k).A=du c.1.A k:=yc _ _;have q:Oe ⟨du c.1.A k,w⟩ (c.1.del k,a,b):=⟨e,z.del k,E,F,j,n,λy S=>f y (BS (by rw[e];exact S))⟩
  conv=>whnf
  refine Ask.mk _ (um (m:=c.1) bP mkA rfl rfl rfl) ?_
  conv=>whnf
  exact⟨_,(c.1.del k,a,b),.told rfl,q,s6 rfl rfl rfl rfl⟩
theorem Oi:ai 68 (cL 4 IxB Q6):=gA Oh 5 (by kernel_rfl) IxB rfl (by decide) λx cs g v ⟨k,a,b,d,e⟩=>by subst a d e;exact⟨rfl,rfl,λc f=>yd x k c f b⟩
theorem Oj:ai 68 (gT 4 IxB Q6):=u4 (ax Oh 5 _) (by kernel_rfl) IxB rfl (by decide) λx cs g v ⟨k,a,b,d,e⟩=>by subst a d e;exact⟨rfl,rfl,λc f=>yd x k c f b⟩
theorem Re.UK{H:AH}{n b j m k x:Nat}{l s:List AV}{z:Bool}{u:AV}(d:u= .rw b 0 j k x)(e:j=m)(f:H.get b=some (.cells l z))(g:s.all flat.flat1=true)(a:s.length=m*k)(c:l.map mk=s.map mk)(h:x≠4:=by decide):Re H n u (H.set none aa b) (.fr m k s):=by subst d e;exact Re.row f g a c h
def KS(x:Ix)(cs:List AV)(v:AV):Prop:=∃k,cs=[.ss k]/\v= .sb (aG x.A k).isSome
theorem s8:ai 84 (dL 4 IxB KS):=(gA az 3 (by kernel_rfl) IxB rfl (by decide) λx cs d v ⟨e,k,f,h⟩=>by
 subst e f h;refine⟨rfl,rfl,λc b=>?_⟩;have a:=b.A;obtain⟨A,w⟩:=d;dsimp only at a;subst a;cases a:aG c.1.A k with
 |none=>
  have q:gz IxB ⟨c.1.A,w⟩ (.sb false) (.bool false) (mkH (bF (ixO c) 0)) 4:=⟨_,c,.told rfl,b,s6 rfl rfl rfl rfl⟩
  conv=>whnf
  refine Ask.mk _ (bd (m:=c.1) (g:=gL) bP mkA rfl rfl rfl GB a) ?_
  conv=>whnf
  exact q
 |some l=>
  have q:gz IxB ⟨c.1.A,w⟩ (.sb true) (.bool true) (mkH (bF (ixO c) 0)) 4:=⟨_,c,.told rfl,b,s6 rfl rfl rfl rfl⟩
  conv=>whnf
  refine Ask.mk _ (bd (m:=c.1) (g:=gL) bP mkA rfl rfl rfl GB a) ?_
  conv=>whnf
  exact q).ol
def W3(x:Ix)(cs:List AV)(v:AV):Prop:=∃k,cs=[.ss k]/\v=gL ((aG x.A k).getD [])
theorem Q7:ai 87 (dL 4 IxB W3):=(gA az 3 (by kernel_rfl) IxB rfl (by decide) λx cs f v ⟨h,k,i,j⟩=>by
 subst h i j;refine⟨rfl,rfl,λc e=>?_⟩;have b:=e.A;have a:=e.lab;obtain⟨A,w⟩:=f;dsimp only at b a;subst b;cases b:aG c.1.A k with
 |none=>
  conv=>whnf
  refine Ask.mk _ (bd (m:=c.1) (g:=gL) bP mkA rfl rfl rfl GB b) ?_
  conv=>whnf
  exact⟨_,c,.nsl,e,s6 rfl rfl rfl rfl⟩
 |some l=>
  have n:l.length<=8:=nP (a _ (bM b)).2;have d:(0+l.length)*32<=140737488355328:=by omega
  conv=>whnf
  refine Ask.mk _ (bd (m:=c.1) (g:=gL) bP mkA rfl rfl rfl GB b) ?_
  conv=>whnf
  refine eY.grow 2 32 _ _ _ _ _ _ WZ .fr (jW l) (En l) .nsl d ?_
  conv=>whnf
  exact⟨_,c,Re.UK rfl (q0w _) rfl (jx l) (jW l) rfl,e,s6 rfl rfl rfl rfl⟩).ol
def mu (x:Ix) (k:Tx) (l:List Lab):Ix×AV:=if(iK k&&dS l)=true then(⟨eg (du x.A k) k (cj l),x.w+8⟩,.si .i64 0)else(x,.si .i64 1)
def UL(x:Ix)(cs:List AV)(a:Ix)(v:AV):Prop:=∃k l r,cs=[.ss k,gL l]/\l.length<=1000/\x.w<800000/\mu x k l=r/\a=r.1/\v=r.2/\gy v=true
def Q8:DT:=[(6,[(some 0,[0]),(some 0,[24]),(some 0,[25]),(some 0,[26]),(some 0,[1]),(some 0,[2]),(none,[29])]),
 (10,[(some 0,[0]),(some 0,[37]),(some 0,[38]),(some 0,[39]),(some 0,[8]),(some 0,[0]),(some 0,[42]),(some 0,[43]),(some 0,[44]),(some 0,[8]),(some 0,[45,46]),(some 0,[1]),(none,[47,48])]),
 (11,[(some 0,[0]),(some 0,[51]),(some 0,[52]),(some 0,[53]),(some 0,[8]),(some 0,[55]),(some 0,[0]),(some 0,[57]),(some 0,[58]),(some 0,[59]),(some 0,[8]),(some 0,[61]),(some 0,[60,62]),(some 0,[1]),(none,[63,64])])]
def KIs:FuncId->EP:=bg 107 Q8 (aq 68 (gT 4 IxB Q6) KIx)
theorem UM:aW KIs:=aw (ae GC Oj) (by kernel_rfl) (by kernel_rfl)
theorem Yx{H:AH}{c:IxC}(a:H.get 0=some (.cells [.map 1,.map 2,.map 3] true))(b:H.get 1=some (c.1.O kT gL))(d:H.get 2=some (c.2.1.O kL gS))(e:H.get 3=some (c.2.2.O kT gS)):∀i o,(ixO c)[i]?=some o->H.get i=some o
 |0,o,h=>by injection h with h;subst h;exact a
 |1,o,h=>by injection h with h;subst h;exact b
 |2,o,h=>by injection h with h;subst h;exact d
 |3,o,h=>by injection h with h;subst h;exact e
 |i+4,o,h=>by simp[ixO]at h
def ixS (k:Tx) (l:List Lab) (i:Nat) (c:IxC):AE×AH:=(mkE [(0,.ptr 0 (0)),(1,.ss (k)),(31,.fr l.length 2 (dj l)),(32,.si .i64 ((l.length:Int))),(33,.si .i64 ((i:Int)))],mkH [(0,.cells [.map 1,.map 2,.map 3] true),(1,c.1.O kT gL),(2,c.2.1.O kL gS),(3,c.2.2.O kT gS)])
theorem KT(x:Ix)(k:Tx)(l:List Lab)(c:IxC)(F:Oe x c)(G:l.length<=1000)(M:x.w<800000){r:Ix×AV}(B:mu x k l=r):ay KIs 5 107 [.ptr 0 0,.ss k,gL l] (mkH (bF (ixO c) 0)) 4 (gz IxB r.1 r.2):=by
 have no:(iK k&&dS l)=false->gz IxB r.1 r.2 (.int .i64 1) (mkH (bF (ixO c) 0)) 4:=λe=>by
  subst B;unfold mu;rw[e];exact⟨_,c,.told rfl,F,s6 rfl rfl rfl rfl⟩
 have H:iK k=false->gz IxB r.1 r.2 (.int .i64 1) (mkH (bF (ixO c) 0)) 4:=λe=>no (by rw[e];rfl)
 have I:dS l=false->gz IxB r.1 r.2 (.int .i64 1) (mkH (bF (ixO c) 0)) 4:=λe=>no (by rw[e,Bool.and_false])
 conv=>whnf
 refine⟨_,_,_,.cons .same .nil,⟨k,rfl,rfl⟩,?_⟩
 conv=>whnf
 refine ah.nsb (λC=>?_) (λC=>?_)
 focus
  have q:=H C
  conv=>whnf
  exact q
 conv=>whnf
 refine⟨_,_,_,.cons .same .nil,⟨l,rfl,G,rfl⟩,?_⟩
 conv=>whnf
 refine ah.nsb (λz2=>?_) (λz2=>?_)
 focus
  have q:=I z2
  conv=>whnf
  exact q
 have B:r=(⟨eg (du x.A k) k (cj l),x.w+8⟩,.si .i64 0):=by rw[<-B];unfold mu;rw[C,z2];rfl
 have N:l.length<=8:=nP z2;have o:x.w<900000:=by omega
 subst B;clear no H I;obtain⟨fs,O,P⟩:=mkL
 conv=>whnf
 refine⟨x,[.ss k],_,_,_,c,rfl,by decide,.cons .same .nil,F,Yx rfl rfl rfl rfl,⟨k,rfl,o,rfl,rfl⟩,λf a=>?_⟩;have p:f.1.A=du x.A k:=a.A
 conv=>whnf
 refine⟨_,_,.cons .same .nil,⟨l,rfl,G,rfl⟩,?_⟩
 conv=>whnf
 refine Ask.mk _ (rD (m:=f.1) (g:=gL) (v:=cj l) (k:=k) bP mkA rfl rfl (congrArg (λn=>AV.fr n 2 (dj (cj l))) (rC l).length_eq.symm) rfl) ?_
 conv=>whnf
 refine aQ.mk {t:Nat×MpC Lab (List Tx)×MpC Tx (List Tx)//t.1<=l.length/\(t.2.1.Ok/\Rows t.2.1 (x.w+t.1))/\t.2.2.Ok/\Rows t.2.2 (x.w+t.1)} 4 (λt=>ixS k l t.val.1 (f.1.put k (cj l),t.val.2)) (λt=>l.length-t.val.1) ⟨(0,f.2),Y5 _,⟨a.o2,a.r2⟩,a.o3,a.r3⟩ ?_ ?_
 focus
  exact Cov.ofN [] ⟨sP,sS,ab.frE rfl,sI,sI,trivial⟩ ⟨oF,oF (al aO pF),oF (al pE fU),oF (al aO fU),trivial⟩
 intro⟨(i,b,d),J,⟨K,s⟩,L,u⟩;have J:i<=l.length:=J;have s:Rows b (x.w+i):=s;have u:Rows d (x.w+i):=u;have Q:IntKind.i64.wrap ((i:Int)+1)=((i+1:Nat):Int):=by rw[aj (by omega) (by omega)];omega
 conv=>whnf
 refine ah.dec (λh=>?_) (λh=>?_)
 focus
  have D:i<l.length:=q0t.1 h;have E:l.length-(i+1)<l.length-i:=by omega
  have R:=s.get l[i];have S:=u.get l[i].1;have T:(qk ((aG b.A l[i]).getD []) k).length<=x.w+(i+1):=by have:=x7 ((aG b.A l[i]).getD []) k;omega
  have U:(qk ((aG d.A l[i].1).getD []) k).length<=x.w+(i+1):=by have:=x7 ((aG d.A l[i].1).getD []) k;omega
  have V:((aG b.A l[i]).getD []).length<1000000:=by omega
  have W:((aG d.A l[i].1).getD []).length<1000000:=by omega
  have X:=vG (k:=l[i]) K (s.le (w':=x.w+(i+1)) (by omega)) T;have Z:=vG (k:=l[i].1) L (u.le (w':=x.w+(i+1)) (by omega)) U;clear R S
  conv=>whnf
  refine Idx.mk i rfl D ?_
  conv=>whnf
  refine au (pC D rfl) ?_
  conv=>whnf
  refine Ask.mk _ (bd (m:=b) (g:=gS) (k:=l[i]) (IE P) O rfl rfl rfl zTx rfl) ?_
  conv=>whnf
  refine⟨_,_,.cons (.opt (g:=gS) rfl _) (.cons .same .nil),⟨_,_,rfl,V,rfl⟩,?_⟩
  conv=>whnf
  refine⟨2,b,l[i],_,rfl,by decide,by decide,rfl,rfl,rfl,?_⟩
  conv=>whnf
  refine Ask.mk _ (bd (m:=d) (g:=gS) (k:=l[i].1) bP mkN rfl rfl rfl zTx rfl) ?_
  conv=>whnf
  refine⟨_,_,.cons (.opt (g:=gS) rfl _) (.cons .same .nil),⟨_,_,rfl,W,rfl⟩,?_⟩
  conv=>whnf
  refine⟨3,d,l[i].1,_,rfl,by decide,by decide,rfl,rfl,rfl,?_⟩
  conv=>whnf
  exact⟨⟨(i+1,s7 b l[i] (qk ((aG b.A l[i]).getD []) k),s7 d l[i].1 (qk ((aG d.A l[i].1).getD []) k)),D,X,Z⟩,E,Cov.ofN [] ⟨sP,sS,ab.frE rfl,sI,sI (congrArg (AV.si .i64) Q),trivial⟩ ⟨oF,oF (al aO pF),oF (al pE fU),oF (al aO fU),trivial⟩⟩
 have e:(f.1.put k (cj l)).A=eg (du x.A k) k (cj l):=by rw[Et,p]
 have z:x.w+i<=x.w+8:=by omega
 have q:Oe ⟨eg (du x.A k) k (cj l),x.w+8⟩ (f.1.put k (cj l),b,d):=⟨e,a.o1.put k _,K,L,s.le z,u.le z,λy j=>by
  have j:y∈eg (du x.A k) k (cj l):=j;rw[<-e]at j;rcases nS j with rfl|j
  ·exact⟨C,(Ep (rC l)).trans z2⟩
  ·rw[p]at j;exact a.lab y j⟩
 conv=>whnf
 exact⟨_,(f.1.put k (cj l),b,d),.told rfl,q,s6 rfl rfl rfl rfl⟩
theorem IH:ai 107 (cL 4 IxB UL):=gA UM 5 (by kernel_rfl) IxB rfl (by decide) λx cs j v ⟨k,l,r,a,b,d,e,f,g,h⟩=>by subst a f g;exact⟨rfl,h,λc i=>KT x k l c i b d e⟩
section
variable {K V:Type}
def fJ(A:List (K×V))(I:List Nat):List (K×V):=I.filterMap λi=>A[i]?
def eo(bs:List Nat)(I:List Nat):List Nat:=I.filterMap λi=>bs[i]?
structure RgI(m:MpC K V)(I:List Nat):Prop where
 nd:I.Nodup
 lt:∀i∈I,i<m.A.length
theorem RgI.nil{m:MpC K V}:RgI m []:=⟨.nil,λi h=>(by cases h)⟩
theorem RgI.len{m:MpC K V}{I:List Nat}(h:RgI m I):I.length<=m.A.length:=by
 have a:I.Nodup/\I⊆List.range m.A.length:=⟨h.nd,λi b=>q2m.2 (h.lt i b)⟩;have:=List.Nodup.length_le_of_subset a.1 a.2;rwa [List.length_range]at this
theorem s9{A:List (K×V)}{I:List Nat}{i:Nat}(h:i<A.length):fJ A (I++ [i])=fJ A I++ [A[i]]:=by
 unfold fJ;rw[List.filterMap_append];simp[Y0 h]
theorem kV{bs:List Nat}{I:List Nat}{i x:Nat}(h:bs[i]?=some x):eo bs (I++ [i])=eo bs I++ [x]:=by
 unfold eo;rw[List.filterMap_append];simp[h]
theorem RgI.step{m:MpC K V}{I:List Nat}(h:RgI m I){i x:Nat}(g:i<m.A.length)(k:m.bs[i]?=some x)(hn:x∉eo m.bs I):RgI m (I++ [i])/\i∉I:=by
 have d:i∉I:=λq=>hn (q2p.2 ⟨i,q,k⟩)
 refine⟨⟨?_,λj c=>?_⟩,d⟩
 ·rw[q3r];exact⟨h.nd,by simp,λa l b f=>by simp at f;subst f;exact λe=>d (e▸l)⟩
 ·rcases q1d.1 c with c|c
  ·exact h.lt j c
  ·simp at c;subst c;exact g
theorem KV(A:List (K×V)):fJ A (List.range A.length)=A:=by
 unfold fJ
 have:∀(n:Nat),n<=A.length->(List.range n).filterMap (λi=>A[i]?)=A.take n:=λn=>by
  induction n with
  |zero=>intro _;simp
  |succ n a=>
   intro b;rw[List.range_succ,List.filterMap_append,a (by omega),Y8 (by omega)];simp[Y0 (show n<A.length by omega)]
 rw[this _ (Z6 _),q0k]
theorem RgI.tc{m:MpC K V}{I:List Nat}(h:RgI m I)(ho:m.bs.Nodup)(o:m.bs.length=m.A.length)(d:∀x∈m.bs,x∈eo m.bs I):(fJ m.A I).Perm m.A/\I.length=m.A.length:=by
 have a:I.Perm (List.range m.A.length):=(List.perm_ext_iff_of_nodup h.nd List.nodup_range).2 λi=>by
  refine⟨λhi=>q2m.2 (h.lt i hi),λhi=>?_⟩;have hi:=q2m.1 hi;have f:=d _ (q0i (l:=m.bs) (n:=i) (by omega));obtain⟨j,p,e⟩:=q2p.1 f;obtain⟨g,k⟩:=Y6.1 e;have:j=i:=(List.getElem_inj (h₀:=g) (h₁:=by omega) ho).1 k;rwa [<-this]
 refine⟨?_,by rw[a.length_eq,List.length_range]⟩;have:=a.filterMap (λi=>m.A[i]?);rw[show(List.range m.A.length).filterMap (λi=>m.A[i]?)=m.A from KV m.A]at this;exact this
theorem Aa{m:MpC K V}(c:(m.A.map Prod.fst).Nodup){I:List Nat}{i:Nat}(d:i<m.A.length)(hi:i∉I):∀e∈fJ m.A I,e.1≠(m.A[i]).1:=λe f q=>by
 obtain⟨j,g,h⟩:=q2p.1 f;obtain⟨k,l⟩:=Y6.1 h;have:j=i:=(List.getElem_inj (xs:=m.A.map Prod.fst) (h₀:=by simpa using k) (h₁:=by simpa using d) c).1 (by simp[l,q]);exact hi (this▸g)
theorem BT{A:List (K×V)}{I:List Nat}{e:K×V}(h:e∈fJ A I):e∈A:=by
 obtain⟨j,_,a⟩:=q2p.1 h;exact q0l a
theorem vH{m:MpC K V}{I:List Nat}(h:RgI m I):(fJ m.A I).length=I.length:=by
 have:∀(I:List Nat),(∀i∈I,i<m.A.length)->(fJ m.A I).length=I.length:=λI=>by
  induction I with
  |nil=>intro _;rfl
  |cons i I b=>
   intro a;unfold fJ;rw[List.filterMap_cons];rw[Y0 (a i q0b)];simp only[Z9];exact congrArg (·+1) (b λj c=>a j (Y4 _ c))
 exact this I h.lt
end
theorem an.jd{H:AH}{m:Nat}{r:Nat->Nat}{b k:Nat}{seen:List Nat}(c:b<m)(d:r b=b):an H m r (.iter b k seen) (.iter b k seen):=
 ⟨⟨rfl,rfl⟩,λh i p j a _ ⟨e,q,f,g⟩=>⟨e,q,by rw[a.1 b c,d];exact f,g⟩⟩
theorem an.dQ{H:AH}{m k:Nat}{r:Nat->Nat}{o:AO}(h:ltO k o=true)(d:k<=m)(g:∀b,b<k->r b=b):an H m r o o:=⟨⟨rfl,rfl⟩,λi j _ _ a _ ho=>OR.below (m:=k) (λb _ c e=>(a.1 b (q0y c d)).trans ((congrArg i.f (g b c)).trans e)) a.2 h ho⟩
theorem oK{H:AH}{m n x:Nat}{r:Nat->Nat}{o:AO}(k:Nat)(h:ltO k o=true:=by exact rfl)(a:k<=m:=by decide)(b:idB r k=true:=by exact rfl)(e:H.get (r x)=some o:=by exact rfl):(∃q,H.get (r x)=some q/\an H m r q o)∨(o.void=true/\n<=r x):= .inl ⟨_,e,.dQ h a (gY b)⟩
theorem iA{V W:List Tx}(h:V.Perm W):aK V=aK W:=rA (bb V).1 (bb W).1 λs=>by rw[(bb V).2,(bb W).2];exact h.mem_iff
def W4(x:Ix)(cs:List AV)(v:AV):Prop:=cs=[]/\x.A.length<=900000/\v=gS (aK (x.A.map Prod.fst))
def ixK (c:IxC) (I:List Nat) (V:List Tx):AE×AH:=(mkE [(3,.rw 5 0 V.length 1 0),(11,.ptr 4 (0))],mkH [(0,.cells [.map 1,.map 2,.map 3] true),(1,c.1.O kT gL),(2,c.2.1.O kL gS),(3,c.2.2.O kT gS),(4,AO.iter 1 c.1.cl (eo c.1.bs I)),(5,.cells (strs (V)) true)])
theorem Ol:ai 65 (dL 4 IxB W4):=(gA GC 4 (by kernel_rfl) IxB rfl (by decide) λx cs r v ⟨t,u,w,y⟩=>by
 subst t u y;refine⟨rfl,rfl,λc d=>?_⟩;have n:=d.A;have J:c.1.A.length<=900000:=by rw[n];exact w
 conv=>whnf
 refine aQ.mk {I:List Nat//RgI c.1 I} 6 (λI=>ixK c I.val ((fJ c.1.A I.val).map Prod.fst)) (λI=>c.1.A.length-I.val.length) ⟨[],.nil⟩ ?_ ?_
 focus
  exact Cov.ofN [(5,5)] ⟨.iV rfl,sP,trivial⟩ ⟨oK 4,oK 0 (al aO pF),oK 0 (al pE fU),oK 0 (al aO fU),.inl ⟨_,rfl,an.jd (by decide) rfl⟩,oR (aB _) (aD _) (.inr ⟨rfl,Z6 _⟩),trivial⟩
 intro⟨I,j⟩;have o:((fJ c.1.A I).map Prod.fst).length+1<=900001:=by rw[Y9,vH j];have:=j.len;omega
 have b:(((fJ c.1.A I).map Prod.fst).length+1)*16<=140737488355328:=by omega
 have B:bq (strs ((fJ c.1.A I).map Prod.fst)) 0 (((fJ c.1.A I).map Prod.fst).length*1)=some (strs ((fJ c.1.A I).map Prod.fst)):=bp (by rw[bu,q0r])
 conv=>whnf
 refine Nxt.mp 4 1 c.1.cl _ _ _ rfl rfl rfl rfl d.o1.lt (λho=>?_) (λi e x p k C=>?_)
 focus
  obtain⟨D,L⟩:=j.tc d.o1.nd d.o1.len ho;have E:aK ((fJ c.1.A I).map Prod.fst)=aK (r.A.map Prod.fst):=by rw[<-n];exact iA (D.map _)
  have F:((fJ c.1.A I).map Prod.fst).length<=1000000:=by omega
  conv=>whnf
  refine⟨_,_,_,.cons (.row (l:=strs ((fJ c.1.A I).map Prod.fst)) (z:=true) rfl (aB _) (by rw[bu,q0r]) rfl) .nil,⟨_,rfl,F,rfl⟩,?_⟩
  conv=>whnf
  exact⟨_,c,by rw[E];exact .same,d,s6 rfl rfl rfl rfl⟩
 obtain⟨f,rfl⟩:=qb p;obtain⟨g,M⟩:=j.step f k C;have G:eo c.1.bs I++ [x]=eo c.1.bs (I++ [i]):=(kV k).symm;have q:(fJ c.1.A I).map Prod.fst++ [c.1.A[i].1]=(fJ c.1.A (I++ [i])).map Prod.fst:=by rw[s9 f,q0m];rfl
 have H:c.1.A.length-(I++ [i]).length<c.1.A.length-I.length:=by have:=g.len;simp only[Z5,q1v]at this⊢;omega
 have a:(strs ((fJ c.1.A I).map Prod.fst)++ [AV.ss c.1.A[i].1]).map mk=strs ((fJ c.1.A (I++ [i])).map Prod.fst):=by rw[<-q];exact dW _ _
 have h:((fJ c.1.A I).map Prod.fst).length+1=((fJ c.1.A (I++ [i])).map Prod.fst).length:=by rw[<-q,Z5];rfl
 have m:=d.o1.nd
 conv=>whnf
 refine Ent.mp 4 1 c.1.cl i x (eo c.1.bs I) (jc kT gL c.1.A) c.1.bs _ rfl rfl rfl m k p ?_
 conv=>whnf
 refine eY.grow 1 16 _ _ _ _ _ _ tyT (.old rfl) rfl rfl (.rw rfl B) b ?_
 conv=>whnf
 exact⟨⟨I++ [i],g⟩,H,Cov.ofN [(5,7)] ⟨.rw (by decide) rfl h,sP,trivial⟩ ⟨oK 4,oK 0 (al aO pF),oK 0 (al pE fU),oK 0 (al aO fU),.inl ⟨_,(congrArg (λs=>some (AO.iter 1 c.1.cl s)) G),an.jd (by decide) rfl⟩,oR (aB _) (aD _) (.inl ⟨_,rfl,a⟩),trivial⟩⟩).ol
theorem Yy{u v:AV}{H:AH}{n p m:Nat}{O:List AO}(f:xW H m O 0)(j:O.length=m)(g:p<=m)(hv:ab H m (λb=>b) u v):Cov p (mkE [(0,u)]) H n (mkE [(0,v)],mkH (bF O 0),m):=
 Cov.ofR (λb=>b) g (λ_ _=>rfl) (λx a=>by
  simp only[Z3,Z4,or_false]at a;subst a;exact hv) (λx a=>by
  obtain⟨b,o⟩:=x;obtain⟨i,h,c⟩:=sr a;have:=(Y6.1 c).1;have d:=f.at c;rw[<-h]at d;exact⟨(by show b<m;omega),.inl d⟩) (λ_ _ _ _ e=>e)
def Yz:IxC:=(MpC.no,MpC.no,MpC.no)
theorem II:ai 51 (sX 4 IxB λcs y=>cs=[]/\y=⟨[],0⟩):=N8 (ax az 3 _) (by kernel_rfl) IxB rfl (by decide) λcs y ⟨f,g⟩=>by
 subst f g;refine⟨rfl,?_⟩
 conv=>whnf
 refine⟨Yz,⟨rfl,MpC.ya,MpC.ya,MpC.ya,λ_ h=>(by cases h),λ_ h=>(by cases h),λ_ h=>(by cases h)⟩,Cov.ofR (λb=>if b=0 then 3 else b-1) (Y5 _) (λb j=>absurd j (q1k b)) (λx c=>?_) (λx c=>?_) (λx c y d e=>?_)⟩
 ·simp only[Z3,Z4,or_false]at c;subst c;exact .ptr (by decide) rfl
 ·simp only[bF,ixO,IxB,Z3,Z4,or_false]at c;rcases c with rfl|rfl|rfl|rfl
  ·refine⟨by decide,.inl ⟨_,rfl,.cells (Z6 _) id λi k a=>?_⟩⟩
   match i,a with
   |0,a=>injection a with a;subst a;exact⟨_,rfl,.map (by decide) rfl⟩
   |1,a=>injection a with a;subst a;exact⟨_,rfl,.map (by decide) rfl⟩
   |2,a=>injection a with a;subst a;exact⟨_,rfl,.map (by decide) rfl⟩
   |i+3,a=>simp at a
  ·exact⟨by decide,.inl ⟨_,rfl,.GA⟩⟩
  ·exact⟨by decide,.inl ⟨_,rfl,.GA⟩⟩
  ·exact⟨by decide,.inl ⟨_,rfl,.GA⟩⟩
 ·simp only[bF,ixO,IxB,Z3,Z4,or_false]at c d;rcases c with rfl|rfl|rfl|rfl<;>rcases d with rfl|rfl|rfl|rfl<;>simp at e⊢
def reL (A:List (Tx×List Lab)):List (Tx×List Lab):=A.map λe=>(e.1,cj e.2)
def UN(x:Ix)(cs:List AV)(a:Ix)(P:AV->List AO->Prop):Prop:=cs=[]/\x.A.length<=1000/\a=x/\P=λv E=>∃p A,A.Perm (reL x.A)/\v=aA p/\E=[.sep (IxB.Q ⟨A,8*x.A.length⟩ p)]
def KIc:FuncId->EP:=aq 51 (sX 4 IxB λcs y=>cs=[]/\y=⟨[],0⟩) (aq 107 (cL 4 IxB UL) evP)
theorem UO:aW KIc:=ae (ae az IH) II
def ixC (c:IxC) (I:List Nat) (a:Nat×Nat):AE×AH:=(mkE [(3,aA a),(13,.ptr 9 (0))],mkH [(0,.cells [.map 1,.map 2,.map 3] true),(1,c.1.O kT gL),(2,c.2.1.O kL gS),(3,c.2.2.O kT gS),(4,AO.sep (IxB.Q ⟨reL (fJ c.1.A I),8*I.length⟩ a)),(9,AO.iter 1 c.1.cl (eo c.1.bs I))])
theorem ye{K V:Type} [DecidableEq K]{A:List (K×V)}{k:K}{v:V}(h:∀e∈A,e.1≠k):eg (du A k) k v=A++ [(k,v)]/\aG A k=none:=by
 have e:aG A k=none:=by
  cases e:aG A k with
  |none=>rfl
  |some u=>exact absurd rfl (h _ (bM e))
 refine⟨?_,e⟩;rw[qc e];unfold aG at e;rw[q4c]at e;unfold eg;rw[e]
theorem Om:ai 66 (xX 4 IxB UN):=xY (ax UO 4 _) (by kernel_rfl) IxB rfl (by decide) λx cs v P ⟨w,y,B,C⟩=>by
 subst w B C;refine⟨rfl,λc d=>?_⟩;have j:=d.A;have N:c.1.A.length<=1000:=by rw[j];exact y
 conv=>whnf
 refine⟨[],⟨[],0⟩,_,by decide,.nil,rfl,⟨rfl,rfl⟩,λf=>?_⟩
 conv=>whnf
 refine aQ.mk {I:List Nat//RgI c.1 I} 10 (λI=>ixC c I.val f) (λI=>c.1.A.length-I.val.length) ⟨[],.nil⟩ ?_ ?_
 focus
  exact Cov.ofN [] ⟨ab.aA rfl,sP,trivial⟩ ⟨oK 4,oK 0 (al aO pF),oK 0 (al pE fU),oK 0 (al aO fU),oS,.inl ⟨_,rfl,an.jd (by decide) rfl⟩,trivial⟩
 intro⟨I,l⟩;have D:=l.len
 conv=>whnf
 refine Nxt.mp 9 1 c.1.cl _ _ _ rfl rfl rfl rfl d.o1.lt (λho=>?_) (λi e x k m E=>?_)
 focus
  obtain⟨F,p⟩:=l.tc d.o1.nd d.o1.len ho;have G:(reL (fJ c.1.A I)).Perm (reL v.A):=by rw[<-j];exact F.map _
  have H:I.length=v.A.length:=by rw[p,j]
  conv=>whnf
  refine⟨aA f,[.sep (IxB.Q ⟨reL (fJ c.1.A I),8*I.length⟩ f)],c,⟨f,_,G,rfl,congrArg (λn=> [AO.sep (IxB.Q ⟨reL (fJ c.1.A I),8*n⟩ f)]) H⟩,d,rfl,λo ho=>?_,Z0 rfl,Yy ?_ rfl (q0u _ _) (ab.aA rfl)⟩
  ·simp only[Z3,Z4,or_false]at ho;subst ho;exact⟨rfl,rfl⟩
  ·exact⟨⟨_,rfl,.refl rfl⟩,⟨_,rfl,.refl (al aO pF)⟩,⟨_,rfl,.refl (al pE fU)⟩,⟨_,rfl,.refl (al aO fU)⟩,⟨_,rfl,an.sep _⟩,trivial⟩
 obtain⟨b,rfl⟩:=qb k;obtain⟨g,J⟩:=l.step b m E;have K:eo c.1.bs I++ [x]=eo c.1.bs (I++ [i]):=(kV m).symm;have L:c.1.A.length-(I++ [i]).length<c.1.A.length-I.length:=by have:=g.len;simp only[Z5,q1v]at this⊢;omega
 have a:=d.lab _ (by rw[<-j];exact q0i b)
 have q:∀e∈reL (fJ c.1.A I),e.1≠c.1.A[i].1:=λe k=>by
  obtain⟨z,M,rfl⟩:=q0e.1 k;exact Aa d.o1.key b J z M
 have h:mu ⟨reL (fJ c.1.A I),8*I.length⟩ c.1.A[i].1 c.1.A[i].2=(⟨reL (fJ c.1.A (I++ [i])),8*(I++ [i]).length⟩,.si .i64 0):=by
  unfold mu;rw[a.1,a.2];show(_,_)=_;rw[(ye q).1,s9 b];unfold reL;rw[q0m,Z5];simp only[q1v,Nat.mul_add];rfl
 have r:c.1.A[i].2.length<=1000:=Y7 (nP a.2) (by decide);have t:8*I.length<800000:=by omega
 have u:=d.o1.nd
 conv=>whnf
 refine Ent.mp 9 1 c.1.cl i x (eo c.1.bs I) (jc kT gL c.1.A) c.1.bs _ rfl rfl rfl u m k ?_
 conv=>whnf
 refine⟨4,f,⟨reL (fJ c.1.A I),8*I.length⟩,[.ss c.1.A[i].1,gL c.1.A[i].2],_,_,_,rfl,by decide,by decide,.cons .same (.cons .same .nil),rfl,rfl,⟨c.1.A[i].1,c.1.A[i].2,_,rfl,r,t,h,rfl,rfl,rfl⟩,?_⟩
 conv=>whnf
 exact⟨⟨I++ [i],g⟩,L,Cov.ofN [] ⟨ab.aA rfl,sP,trivial⟩ ⟨oK 4,oK 0 (al aO pF),oK 0 (al pE fU),oK 0 (al aO fU),oS,.inl ⟨_,(congrArg (λs=>some (AO.iter 1 c.1.cl s)) K),an.jd (by decide) rfl⟩,trivial⟩⟩
structure Rl where
 src:Tx
 dst:Tx
 kind:Int
 size:Int
 align:Int
deriving DecidableEq
def ruC(r:Rl):List AV:=[.ss r.src,.ss r.dst,.si .i64 r.kind,.si .i64 r.size,.si .i64 r.align]
def gR(r:Rl):AV:= .agg (ruC r)
def ruL(L:List Rl):List AV:=L.flatMap ruC
theorem te(r:Rl)(L:List Rl):ruL (r::L)=ruC r++ruL L:=rfl
theorem jy(L:List Rl):(ruL L).length=L.length*5:=by
 induction L with
 |nil=>rfl
 |cons r L a=>rw[te];simp only[Z5,Z9,a];show 5+_=_;omega
theorem cX(L:List Rl):(ruL L).all flat.flat1=true:=by
 induction L with
 |nil=>rfl
 |cons r L a=>rw[te,List.all_append,a];rfl
theorem bW(L:List Rl):(ruL L).map mk=ruL L:=by
 induction L with
 |nil=>rfl
 |cons r L a=>rw[te,q0m,a];rfl
theorem yf(L:List Rl)(r:Rl):(ruL L++ruC r).map mk=ruL (L++ [r]):=by
 have:ruL (L++ [r])=ruL L++ruC r:=by
  show(L++ [r]).flatMap ruC=_;rw[List.flatMap_append];simp[ruL]
 rw[this,q0m,bW];rfl
theorem Eu:∀(L:List Rl) (i:Nat),(ruL L).drop (i*5)=ruL (L.drop i)
 |L,0=>by simp
 | [],i+1=>by simp[ruL]
 |r::L,i+1=>by
  rw[show(i+1)*5=i*5+1+1+1+1+1 by omega];exact Eu L i
theorem qd{L:List Rl}{i o:Nat}(h:i<L.length)(ho:o=i*5):bq (ruL L) o 5=some (ruC L[i]):=by
 subst ho;unfold bq;rw[q0o (by rw[jy];omega),Eu,q0j h,te];rfl
theorem UP:RTy 38 38 5 56:=⟨_,_,_,rfl,rfl,(λq h=>by cases h),rfl,rfl,rfl,rfl,by decide,by decide⟩
def Ab(r:Rl):Bool:=decide (1<=r.size/\r.size<=1099511627776/\0<=r.align/\r.align<r.size)
def cS(r:Rl):Bool:=Ab r&&(iK r.src&&(iK r.dst&&(!decide (r.src=r.dst)&&j9 r.kind)))
def UQ(cs:List AV)(v:AV):Prop:=∃r:Rl,cs=[gR r]/\v= .sb (cS r)
theorem Q9{P:Program}{t:TypeId}{H:AH}{xs a:List AV}{pl:List (Nat×Nat)}{q:Bool}(b:iN P t=some pl)(c:jJ xs a pl=some q):yK P .eql t (.agg xs) (.agg a) H=some (.bool q):=by
 show qy .eql ((iN P t).bind (jJ xs a))=_;rw[b];show qy .eql (jJ xs a pl)=_;rw[c];rfl
theorem W5:iN Tryz.prog 32=some [(1,0),(1,1),(0,2),(0,3),(0,4)]:=by kernel_rfl
def KRr:FuncId->EP:=aq 105 (cW Eo) (aq 149 (se j9) evP)
theorem UR:aW KRr:=ae (ae az Hh) IC
theorem US(r:Rl):jJ [.str r.src,.str r.dst,.int .i64 r.kind,.int .i64 r.size,.int .i64 r.align] [.str r.src,.str r.dst,.int .i64 r.kind,.int .i64 (max 1 (min r.size 1099511627776)),.int .i64 (max 0 (min r.align (IntKind.i64.wrap (r.size-1))))] [(1,0),(1,1),(0,2),(0,3),(0,4)]=some (Ab r):=by
 have e:jJ [.str r.src,.str r.dst,.int .i64 r.kind,.int .i64 r.size,.int .i64 r.align] [.str r.src,.str r.dst,.int .i64 r.kind,.int .i64 (max 1 (min r.size 1099511627776)),.int .i64 (max 0 (min r.align (IntKind.i64.wrap (r.size-1))))] [(1,0),(1,1),(0,2),(0,3),(0,4)]=some (dh r.src r.src&&(dh r.dst r.dst&&(decide (r.kind=r.kind)&&(decide (r.size=max 1 (min r.size 1099511627776))&&(decide (r.align=max 0 (min r.align (IntKind.i64.wrap (r.size-1))))&&true))))):=by
  simp[jJ,nth]
 rw[e,bk.2 rfl,bk.2 rfl,decide_eq_true (rfl:r.kind=r.kind)];congr 1;unfold Ab;rw[q2r];simp only[Bool.true_and,Bool.and_true,Z7,decide_eq_true_eq];constructor
 ·rintro⟨b,a⟩;rw[aj (by omega) (by omega)]at a;omega
 ·rintro⟨b,a,c,d⟩;rw[aj (by omega) (by omega)];omega
attribute [local irreducible] iN
theorem W6:ai 89 (cW UQ):=pv UR 4 (by kernel_rfl) λcs v ⟨r,k,l⟩=>by
 subst k l;have q:=US r;have m:Ab r=false->cS r=false:=λz=>by unfold cS;rw[z];rfl
 have n:iK r.src=false->cS r=false:=λz=>by unfold cS;rw[z];simp
 have o:iK r.dst=false->cS r=false:=λz=>by unfold cS;rw[z];simp
 have p:dh r.src r.dst=true->cS r=false:=λz=>by unfold cS;rw[decide_eq_true (bk.1 z)];simp
 have s:Ab r=true->iK r.src=true->iK r.dst=true->dh r.src r.dst=false->cS r=j9 r.kind:=λa b c d=>by
  have:r.src≠r.dst:=λe=>by rw[bk.2 e]at d;cases d
  unfold cS;rw[a,b,c,decide_eq_false this];rfl
 refine⟨rfl,rfl,?_⟩
 conv=>whnf
 generalize j:yK _ _ _ _ _ _=E;have f:E=some (.bool (Ab r)):=j.symm.trans (Q9 W5 q);clear j;subst f
 conv=>whnf
 refine ah.sb (λg=>?_) (λg=>?_)
 ·conv=>whnf
  refine⟨_,_,_,.cons .same .nil,⟨_,rfl,rfl⟩,?_⟩
  conv=>whnf
  refine ah.sb (λh=>?_) (λh=>?_)
  ·conv=>whnf
   refine⟨_,_,_,.cons .same .nil,⟨_,rfl,rfl⟩,?_⟩
   conv=>whnf
   refine ah.sb (λz2=>?_) (λz2=>?_)
   ·conv=>whnf
    refine ah.nsb (λi=>?_) (λi=>?_)
    ·have e:=s g h z2 i
     conv=>whnf
     exact dD.told (congrArg AV.sb e.symm)
    ·have e:=p i
     conv=>whnf
     exact dD.told (congrArg AV.sb e.symm)
   ·have e:=o z2
    conv=>whnf
    exact dD.told (congrArg AV.sb e.symm)
  ·have e:=n h
   conv=>whnf
   exact dD.told (congrArg AV.sb e.symm)
 ·have e:=m g
  conv=>whnf
  exact dD.told (congrArg AV.sb e.symm)
abbrev Gr:=List (Tx×Rl)
abbrev GrC:=MpC Tx Rl
def zR:Rl:=⟨[],[],0,0,0⟩
theorem cN{j:Nat}(r:Rl):ltV j (gR r)=true:=rfl
structure yP(x:Gr)(c:GrC):Prop where
 A:c.A=x
 o:c.Ok
 dst:∀e∈x,e.2.dst=e.1
 lab:∀e∈x,cS e.2=true
def grO(c:GrC):List AO:=[.cells [.map 1] true,c.O kT gR]
def GrB:Obj Gr GrC where
 ok:=yP
 O:=grO
 k:=2
 len _:=rfl
 own c o h:=by
  simp only[grO,Z3,Z4,or_false]at h;rcases h with rfl|rfl
  ·exact⟨rfl,rfl⟩
  ·exact⟨rfl,al aO cN⟩
 pos c:=⟨_,_,_,rfl⟩
theorem mY{H:AH}{c:GrC}(a:H.get 0=some (.cells [.map 1] true))(b:H.get 1=some (c.O kT gR)):xW H 2 (grO c) 0:=⟨⟨_,a,.refl rfl⟩,⟨_,b,.refl (al aO cN)⟩,trivial⟩
theorem W7{H:AH}{c:GrC}(a:H.get 0=some (.cells [.map 1] true))(b:H.get 1=some (c.O kT gR)):∀i o,(grO c)[i]?=some o->H.get i=some o
 |0,o,h=>by injection h with h;subst h;exact a
 |1,o,h=>by injection h with h;subst h;exact b
 |i+2,o,h=>by simp[grO]at h
theorem mkR:dM Tryz.prog 167=some (9,.string,32):=by kernel_rfl
theorem lF:cZ Tryz.prog 32=some (.agg #[.string ⟨#[]⟩,.string ⟨#[]⟩,.int .i64 0,.int .i64 0,.int .i64 0]):=by kernel_rfl
def rul(R:Gr)(d:Tx):Rl:=(aG R d).getD zR
def pkS (N:List Tx) (R:Gr) (s:Tx):List Rl:=(N.filter λd=>decide ((rul R d).src=s)).map (rul R)
def pkF (R:Gr) (so:Rl->Bool):List Rl:=(aK ((R.filter λe=>so e.2).map λe=>e.2.src)).flatMap (pkS (aK ((R.filter λe=>so e.2).map Prod.fst)) R)
theorem qe{R:Gr}{so:Rl->Bool}(h:(R.map Prod.fst).Nodup)(hd:∀e∈R,e.2.dst=e.1)(r:Rl):r∈pkF R so<->(r.dst,r)∈R/\so r=true:=by
 unfold pkF pkS;simp only[List.mem_flatMap,q0e,q1b,(bb _).2,decide_eq_true_eq];constructor
 ·rintro⟨s,⟨e,⟨b,c⟩,l⟩,d,⟨⟨a,⟨f,j⟩,k⟩,m⟩,i⟩;subst k;have g:aG R a.1=some a.2:=cT h f;have:rul R a.1=a.2:=by unfold rul;rw[g];rfl
  rw[this]at i;subst i;exact⟨by rw[hd a f];exact f,j⟩
 ·rintro⟨b,c⟩;have g:aG R r.dst=some r:=cT h b;have:rul R r.dst=r:=by unfold rul;rw[g];rfl
  exact⟨r.src,⟨(r.dst,r),⟨b,c⟩,rfl⟩,r.dst,⟨⟨(r.dst,r),⟨b,c⟩,rfl⟩,by rw[this]⟩,this⟩
theorem kJ{a:Type}{p:a->Bool}(L:List a):(L.filter p).length<=L.length:=q1e _ _
theorem tf{a c:Type}{f:a->List c}{b:Nat}:∀{L:List a},(∀x∈L,(f x).length<=b)->(L.flatMap f).length<=L.length*b
 | [],_=>by simp
 |x::L,h=>by
  rw[q4j,Z5,Z9,q2i,Nat.one_mul];have e:=h x q0b;have g:=tf (L:=L) λy d=>h y (Y4 _ d)
  omega
theorem yg{N:List Tx}{R:Gr}{s:Tx}{j:Nat}(h:j<N.length):pkS (N.take (j+1)) R s=pkS (N.take j) R s++if(rul R N[j]).src=s then [rul R N[j]]else []:=by
 unfold pkS;rw[Y8 h,q2j,q0m];congr 1;by_cases q:(rul R N[j]).src=s
 ·simp[q]
 ·simp[q]
theorem ab.dQ{H:AH}{m k:Nat}{r:Nat->Nat}{a:AV}(h:ltV k a=true)(g:k<=m)(i:∀b,b<k->r b=b):ab H m r a a:=λj n v c _ l=>VR.below (m:=k) (λb _ d e=>(c.1 b (q0y d g)).trans ((congrArg j.f (i b d)).trans e)) c.2 a v h l
theorem ab.ig{H:AH}{m k:Nat}{r:Nat->Nat}{a c:AV}(e:a=c)(h:ltV k c=true)(d:k<=m)(f:∀b,b<k->r b=b):ab H m r a c:=by subst e;exact ab.dQ h d f
def soV(A:Gr)(so:Rl->Bool)(I:List Nat):Gr:=(fJ A I).filter λe=>so e.2
theorem yh{A:Gr}{so:Rl->Bool}{I:List Nat}{i:Nat}(h:i<A.length):soV A so (I++ [i])=soV A so I++if so A[i].2=true then [A[i]]else []:=by
 unfold soV;rw[s9 h,q2j];congr 1;by_cases q:so A[i].2=true
 ·simp[q]
 ·simp[q]
def KPk:FuncId->EP:=bg 111 [(8,[(some 1000000,[2,6,3,6,2,7,3,7]),(none,[0,1,2,3,4,5,6,7,8,9,10]),(none,[0,1,2,4,5,6,3,7,8,9,10]),(none,[0,1,2,4,5,6,7,3,8,9,10]),(none,[0,1,4,5,6,2,3,7,8,9,10]),(none,[0,1,4,5,6,2,7,3,8,9,10]),(none,[0,1,4,5,6,7,2,3,8,9,10])])] (aq 124 (cW UF) evP)
theorem yi:aW KPk:=aw (ae az SH) (by kernel_rfl) (by kernel_rfl)
def W8 (c:GrC) (I:List Nat) (V:List Tx) (W:List Tx):AE×AH:=(mkE [(0,.ptr 0 (0)),(1,AV.fn 112 [] []),(5,.rw 8 0 V.length 1 0),(6,.rw 9 0 W.length 1 0),(20,.ptr 2 (0))],mkH [(0,.cells [.map 1] true),(1,c.O kT gR),(2,AO.iter 1 c.cl (eo c.bs I)),(8,.cells (strs (V)) true),(9,.cells (strs (W)) true)])
def W9 (c:GrC) (N:List Tx) (S:List Tx) (L:List Rl) (i:Nat):AE×AH:=(mkE [(0,.ptr 0 (0)),(5,.fr N.length 1 (strs N)),(9,AV.rw 8 0 L.length 5 0),(41,.fr S.length 1 (strs S)),(42,.si .i64 ((S.length:Int))),(43,.si .i64 ((i:Int)))],mkH [(0,.cells [.map 1] true),(1,c.O kT gR),(8,.cells (ruL (L)) true)])
def Xa (c:GrC) (N:List Tx) (S:List Tx) (L:List Rl) (s:Tx) (i:Nat) (j:Nat):AE×AH:=(mkE [(0,.ptr 0 (0)),(5,.fr N.length 1 (strs N)),(9,AV.rw 8 0 L.length 5 0),(11,.ss (s)),(41,.fr S.length 1 (strs S)),(42,.si .i64 ((S.length:Int))),(43,.si .i64 ((i:Int))),(47,.fr N.length 1 (strs N)),(48,.si .i64 ((N.length:Int))),(49,.si .i64 ((j:Int)))],mkH [(0,.cells [.map 1] true),(1,c.O kT gR),(8,.cells (ruL (L)) true)])
theorem Ac(x:Gr)(c:GrC)(n:yP x c)(J:c.A.length<=1000):ay KPk 5 53 [.ptr 0 0] (mkH (bF (grO c) 0)) 2 (gz GrB x (.fr (pkF c.A (λ_=>true)).length 5 (ruL (pkF c.A (λ_=>true))))):=by
 obtain⟨a,u⟩:∃a:Rl->Bool,a=λ_=>true:=⟨_,rfl⟩
 rw[<-u]
 conv=>whnf
 refine aQ.mk {I:List Nat//RgI c I} 10 (λI=>W8 c I.val ((soV c.A a I.val).map Prod.fst) ((soV c.A a I.val).map λe=>e.2.src)) (λI=>c.A.length-I.val.length) ⟨[],.nil⟩ ?_ ?_
 focus
  exact Cov.ofN [(8,8),(9,9)] ⟨sP,ab.ig (k:=3) rfl rfl (by decide) (gY rfl),.iV rfl,.iV rfl,sP,trivial⟩ ⟨oK 2,oK 0 (al aO cN),.inl ⟨_,rfl,an.jd (by decide) rfl⟩,oR (aB _) (aD _) (.inr ⟨rfl,Z0 rfl⟩),oR (aB _) (aD _) (.inr ⟨rfl,Z0 rfl⟩),trivial⟩
 intro⟨I,D⟩;have hIl:=D.len;have hle:(soV c.A a I).length<=I.length:=Y7 (kJ _) (Nat.le_of_eq (vH D));have K:(((soV c.A a I).map Prod.fst).length+1)*16<=140737488355328:=by rw[Y9];omega
 have O:(((soV c.A a I).map λe=>e.2.src).length+1)*16<=140737488355328:=by rw[Y9];omega
 have hV:bq (strs ((soV c.A a I).map Prod.fst)) 0 (((soV c.A a I).map Prod.fst).length*1)=some (strs ((soV c.A a I).map Prod.fst)):=bp (by rw[bu,q0r]);have hW:bq (strs ((soV c.A a I).map λe=>e.2.src)) 0 (((soV c.A a I).map λe=>e.2.src).length*1)=some (strs ((soV c.A a I).map λe=>e.2.src)):=bp (by rw[bu,q0r])
 conv=>whnf
 refine Nxt.mp 2 1 c.cl _ _ _ rfl rfl rfl rfl n.o.lt (λho=>?_) (λi e x p P hn=>?_)
 rotate_left
 focus
  obtain⟨v,rfl⟩:=qb p;obtain⟨w,Q⟩:=D.step v P hn;have Y:eo c.bs I++ [x]=eo c.bs (I++ [i]):=(kV P).symm;have hm:c.A.length-(I++ [i]).length<c.A.length-I.length:=by have:=w.len;simp only[Z5,q1v]at this⊢;omega
  have T:=n.o.nd;have E:=yh (so:=a) (I:=I) v
  have yes:a c.A[i].2=true->((strs ((soV c.A a I).map Prod.fst)++ [AV.ss c.A[i].1]).map mk=strs ((soV c.A a (I++ [i])).map Prod.fst)/\((soV c.A a I).map Prod.fst).length+1=((soV c.A a (I++ [i])).map Prod.fst).length)/\(strs ((soV c.A a I).map λe=>e.2.src)++ [AV.ss c.A[i].2.src]).map mk=strs ((soV c.A a (I++ [i])).map λe=>e.2.src)/\((soV c.A a I).map λe=>e.2.src).length+1=((soV c.A a (I++ [i])).map λe=>e.2.src).length:=λq=>by
   have eV:(soV c.A a (I++ [i])).map Prod.fst=(soV c.A a I).map Prod.fst++ [c.A[i].1]:=by rw[E,if_pos q,q0m];rfl
   have eW:(soV c.A a (I++ [i])).map (λe=>e.2.src)=(soV c.A a I).map (λe=>e.2.src)++ [c.A[i].2.src]:=by rw[E,if_pos q,q0m];rfl
   rw[eV,eW];exact⟨⟨dW _ _,by rw[Z5];rfl⟩,dW _ _,by rw[Z5];rfl⟩
  have no:a c.A[i].2=false->soV c.A a (I++ [i])=soV c.A a I:=λq=>by
   rw[E,q];simp
  clear E
  conv=>whnf
  refine Ent.mp 2 1 c.cl i x (eo c.bs I) (jc kT gR c.A) c.bs _ rfl rfl rfl T P p ?_
  conv=>whnf
  have q:=yes (by rw[u])
  conv=>whnf
  refine⟨?_,?_,?_,?_,?_,?_,trivial⟩
  all_goals
   conv=>whnf
   refine eY.grow 1 16 _ _ _ _ _ _ tyT (.old rfl) rfl rfl (.rw rfl hV) K ?_
   conv=>whnf
   refine eY.grow 1 16 _ _ _ _ _ _ tyT (.old rfl) rfl rfl (.rw rfl hW) O ?_
   conv=>whnf
   refine⟨⟨I++ [i],w⟩,hm,?_⟩
   first
   |exact Cov.ofN [(8,13),(9,15)] ⟨sP,ab.ig (k:=3) rfl rfl (by decide) (gY rfl),.rw (by decide) rfl q.1.2,.rw (by decide) rfl q.2.2,sP,trivial⟩ ⟨oK 2,oK 0 (al aO cN),.inl ⟨_,(congrArg (λs=>some (AO.iter 1 c.cl s)) Y),an.jd (by decide) rfl⟩,oR (aB _) (aD _) (.inl ⟨_,rfl,q.1.1⟩),oR (aB _) (aD _) (.inl ⟨_,rfl,q.2.1⟩),trivial⟩
   |exact Cov.ofN [(8,14),(9,15)] ⟨sP,ab.ig (k:=3) rfl rfl (by decide) (gY rfl),.rw (by decide) rfl q.1.2,.rw (by decide) rfl q.2.2,sP,trivial⟩ ⟨oK 2,oK 0 (al aO cN),.inl ⟨_,(congrArg (λs=>some (AO.iter 1 c.cl s)) Y),an.jd (by decide) rfl⟩,oR (aB _) (aD _) (.inl ⟨_,rfl,q.1.1⟩),oR (aB _) (aD _) (.inl ⟨_,rfl,q.2.1⟩),trivial⟩
 have hd:∀e∈c.A,e.2.dst=e.1:=λe p=>n.dst e (by rw[<-n.A];exact p)
 obtain⟨p1,p2⟩:=D.tc n.o.nd n.o.len ho;have pp:(soV c.A a I).Perm (c.A.filter λe=>a e.2):=p1.filter _;have Z:=iA (pp.map Prod.fst);have eS:=iA (pp.map λe=>e.2.src);have lV:((soV c.A a I).map Prod.fst).length<=1000000:=by rw[Y9];omega
 have lW:((soV c.A a I).map λe=>e.2.src).length<=1000000:=by rw[Y9];omega
 obtain⟨N,F⟩:∃N,N=aK ((soV c.A a I).map Prod.fst):=⟨_,rfl⟩;obtain⟨S,U⟩:∃S,S=aK ((soV c.A a I).map λe=>e.2.src):=⟨_,rfl⟩;have lN:N.length<=1000:=by rw[F];have:=cu ((soV c.A a I).map Prod.fst);rw[Y9]at this;omega
 have lS:S.length<=1000:=by rw[U];have:=cu ((soV c.A a I).map λe=>e.2.src);rw[Y9]at this;omega
 have gN:∀d∈N,∃r,aG c.A d=some r:=λd hd=>by
  rw[F,(bb _).2,q0e]at hd;obtain⟨e,p,rfl⟩:=hd;exact⟨e.2,cT n.o.key (BT (q1b.1 p).1)⟩
 have fin:S.flatMap (pkS N c.A)=pkF c.A a:=by rw[F,U,Z,eS];rfl
 have vN:AV.fr N.length 1 (strs N)= .fr (aK ((soV c.A a I).map Prod.fst)).length 1 (strs (aK ((soV c.A a I).map Prod.fst))):=by rw[F]
 have vS:AV.fr S.length 1 (strs S)= .fr (aK ((soV c.A a I).map λe=>e.2.src)).length 1 (strs (aK ((soV c.A a I).map λe=>e.2.src))):=by rw[U]
 clear Z eS pp
 conv=>whnf
 refine⟨_,.fr N.length 1 (strs N),_,.cons (.row (l:=strs ((soV c.A a I).map Prod.fst)) (z:=true) rfl (aB _) (by rw[bu,q0r]) rfl) .nil,⟨_,rfl,lV,vN⟩,?_⟩
 conv=>whnf
 refine⟨_,.fr S.length 1 (strs S),_,.cons (.row (l:=strs ((soV c.A a I).map λe=>e.2.src)) (z:=true) rfl (aB _) (by rw[bu,q0r]) rfl) .nil,⟨_,rfl,lW,vS⟩,?_⟩;have lP:∀(M:List Tx) (s:Tx),(pkS M c.A s).length<=M.length:=λM s=>by unfold pkS;rw[Y9];exact kJ _
 have lL:∀i,((S.take i).flatMap (pkS N c.A)).length<=1000000:=λi=>by
  have h1:=tf (L:=S.take i) (f:=pkS N c.A) (b:=1000) λs _=>Y7 (lP N s) lN
  have h2:(S.take i).length<=1000:=Y7 (by rw[q0g];exact Nat.min_le_right _ _) lS;omega
 conv=>whnf
 refine aQ.mk {i:Nat//i<=S.length} 9 (λi=>W9 c N S ((S.take i.val).flatMap (pkS N c.A)) i.val) (λi=>S.length-i.val) ⟨0,Y5 _⟩ ?_ ?_
 focus
  exact Cov.ofN [(8,10)] ⟨sP,ab.frE rfl,.iV rfl,ab.frE rfl,sI,sI,trivial⟩ ⟨oK 2,oK 0 (al aO cN),oR (cX _) (bW _) (.inr ⟨rfl,Z0 rfl⟩),trivial⟩
 intro⟨i,Q⟩;have Q:i<=S.length:=Q;have hw:IntKind.i64.wrap ((i:Int)+1)=((i+1:Nat):Int):=by rw[aj (by omega) (by omega)];omega
 have lLi:=lL i
 conv=>whnf
 refine ah.dec (λh=>?_) (λh=>?_)
 focus
  have G:i<S.length:=q0t.1 h;have e3:(S.take (i+1)).flatMap (pkS N c.A)=(S.take i).flatMap (pkS N c.A)++pkS N c.A S[i]:=by rw[Y8 G,List.flatMap_append];simp
  conv=>whnf
  refine Idx.mk i rfl G ?_
  conv=>whnf
  refine au (fD G (q0r _)) ?_
  conv=>whnf
  refine aQ.mk {j:Nat//j<=N.length} 9 (λj=>Xa c N S ((S.take i).flatMap (pkS N c.A)++pkS (N.take j.val) c.A S[i]) S[i] i j.val) (λj=>N.length-j.val) ⟨0,Y5 _⟩ ?_ ?_
  focus
   exact Cov.ofN [(8,8)] ⟨sP,ab.frE rfl,.rw (by decide) rfl (by rw[Z5];rfl),sS,ab.frE rfl,sI,sI,ab.frE rfl,sI,sI,trivial⟩ ⟨oK 2,oK 0 (al aO cN),oR (cX _) (bW _) (.inl ⟨_,rfl,by rw[bW];exact congrArg ruL (q0z _).symm⟩),trivial⟩
  intro⟨j,hj⟩;have hj:j<=N.length:=hj;have y:IntKind.i64.wrap ((j:Int)+1)=((j+1:Nat):Int):=by rw[aj (by omega) (by omega)];omega
  obtain⟨L,B⟩:∃L,L=(S.take i).flatMap (pkS N c.A)++pkS (N.take j) c.A S[i]:=⟨_,rfl⟩
  have bL:L.length<=1001000:=by
   have h1:=lP (N.take j) S[i];rw[q0g]at h1;rw[B,Z5];omega
  rw[<-B]
  conv=>whnf
  refine ah.dec (λh=>?_) (λh=>?_)
  focus
   have t:j<N.length:=q0t.1 h;obtain⟨r,V⟩:=gN N[j] (q0i t);have er:rul c.A N[j]=r:=by unfold rul;rw[V];rfl
   have H:=yg (R:=c.A) (s:=S[i]) t;rw[er]at H;have C:N.length-(j+1)<N.length-j:=by omega
   have y1:dh r.src S[i]=true->L++ [r]=(S.take i).flatMap (pkS N c.A)++pkS (N.take (j+1)) c.A S[i]:=λq=>by rw[H,if_pos (bk.1 q),B,q0q]
   have y0:dh r.src S[i]=false->L=(S.take i).flatMap (pkS N c.A)++pkS (N.take (j+1)) c.A S[i]:=λq=>by
    have:r.src≠S[i]:=λe=>by rw[bk.2 e]at q;cases q
    rw[H,if_neg this,q0z,B]
   have W:bq (ruL L) 0 (L.length*5)=some (ruL L):=bp (jy L);have X:(L.length+1)*56<=140737488355328:=by omega
   clear H
   conv=>whnf
   refine Idx.mk j rfl t ?_
   conv=>whnf
   refine au (fD t (q0r _)) ?_
   conv=>whnf
   refine Ask.mk _ (bd (m:=c) (g:=gR) (k:=N[j]) bP mkR rfl rfl rfl lF V) ?_
   conv=>whnf
   refine ah.sb (λz=>?_) (λz=>?_)
   focus
    have q:=y1 z
    conv=>whnf
    refine Ask.mk _ (bd (m:=c) (g:=gR) (k:=N[j]) bP mkR rfl rfl rfl lF V) ?_
    conv=>whnf
    refine eY.grow 5 56 _ _ _ _ _ _ UP (.old rfl) rfl rfl (.rw rfl W) X ?_
    conv=>whnf
    exact⟨⟨j+1,t⟩,C,Cov.ofN [(8,10)] ⟨sP,ab.frE rfl,.rw (by decide) rfl (by rw[<-q,Z5];rfl),sS,ab.frE rfl,sI,sI,ab.frE rfl,sI,sI (congrArg (AV.si .i64) y),trivial⟩ ⟨oK 2,oK 0 (al aO cN),oR (cX _) (bW _) (.inl ⟨_,rfl,by rw[<-q];exact yf L r⟩),trivial⟩⟩
   have q:=y0 z
   conv=>whnf
   exact⟨⟨j+1,t⟩,C,Cov.ofN [(8,8)] ⟨sP,ab.frE rfl,.rw (by decide) rfl (by rw[<-q]),sS,ab.frE rfl,sI,sI,ab.frE rfl,sI,sI (congrArg (AV.si .i64) y),trivial⟩ ⟨oK 2,oK 0 (al aO cN),oR (cX _) (bW _) (.inl ⟨_,rfl,by rw[<-q];exact bW L⟩),trivial⟩⟩
  have ej:j=N.length:=by have h:¬(j:Int)<(N.length:Int):=h;omega
  have eL:L=(S.take (i+1)).flatMap (pkS N c.A):=by rw[B,ej,q0k,e3]
  conv=>whnf
  exact⟨⟨i+1,G⟩,by show S.length-(i+1)<S.length-i;omega,Cov.ofN [(8,8)] ⟨sP,ab.frE rfl,.rw (by decide) rfl (by rw[eL]),ab.frE rfl,sI,sI (congrArg (AV.si .i64) hw),trivial⟩ ⟨oK 2,oK 0 (al aO cN),oR (cX _) (bW _) (.inl ⟨_,rfl,by rw[eL];exact bW _⟩),trivial⟩⟩
 have ei:i=S.length:=by have h:¬(i:Int)<(S.length:Int):=h;omega
 have eF:(S.take i).flatMap (pkS N c.A)=pkF c.A a:=by rw[ei,q0k,fin]
 conv=>whnf
 exact⟨_,c,Re.UK rfl (congrArg List.length eF) rfl (cX _) (jy _) (by rw[eF]),n,mY rfl rfl⟩
def YA (k:Tx) (c:GrC) (I:List Nat) (V:List Tx) (W:List Tx):AE×AH:=(mkE [(0,.ptr 0 (0)),(1,AV.fn 189 [] [.ptr 2 0]),(5,.rw 8 0 V.length 1 0),(6,.rw 9 0 W.length 1 0),(20,.ptr 3 (0))],mkH [(0,.cells [.map 1] true),(1,c.O kT gR),(2,.cells [.ss k] true),(3,AO.iter 1 c.cl (eo c.bs I)),(8,.cells (strs (V)) true),(9,.cells (strs (W)) true)])
def YB (k:Tx) (c:GrC) (N:List Tx) (S:List Tx) (L:List Rl) (i:Nat):AE×AH:=(mkE [(0,.ptr 0 (0)),(5,.fr N.length 1 (strs N)),(9,AV.rw 8 0 L.length 5 0),(41,.fr S.length 1 (strs S)),(42,.si .i64 ((S.length:Int))),(43,.si .i64 ((i:Int)))],mkH [(0,.cells [.map 1] true),(1,c.O kT gR),(2,.cells [.ss k] true),(8,.cells (ruL (L)) true)])
def YC (k:Tx) (c:GrC) (N:List Tx) (S:List Tx) (L:List Rl) (s:Tx) (i:Nat) (j:Nat):AE×AH:=(mkE [(0,.ptr 0 (0)),(5,.fr N.length 1 (strs N)),(9,AV.rw 8 0 L.length 5 0),(11,.ss (s)),(41,.fr S.length 1 (strs S)),(42,.si .i64 ((S.length:Int))),(43,.si .i64 ((i:Int))),(47,.fr N.length 1 (strs N)),(48,.si .i64 ((N.length:Int))),(49,.si .i64 ((j:Int)))],mkH [(0,.cells [.map 1] true),(1,c.O kT gR),(2,.cells [.ss k] true),(8,.cells (ruL (L)) true)])
theorem Ev(x:Gr)(k:Tx)(c:GrC)(n:yP x c)(J:c.A.length<=1000):ay KPk 5 133 [.ptr 0 0,.ss k] (mkH (bF (grO c) 0)) 2 (gz GrB x (.fr (pkF c.A (λr=>decide (r.src=k))).length 5 (ruL (pkF c.A (λr=>decide (r.src=k)))))):=by
 obtain⟨a,p⟩:∃a:Rl->Bool,a=λr=>decide (r.src=k):=⟨_,rfl⟩
 rw[<-p]
 conv=>whnf
 refine aQ.mk {I:List Nat//RgI c I} 10 (λI=>YA k c I.val ((soV c.A a I.val).map Prod.fst) ((soV c.A a I.val).map λe=>e.2.src)) (λI=>c.A.length-I.val.length) ⟨[],.nil⟩ ?_ ?_
 focus
  exact Cov.ofN [(8,8),(9,9)] ⟨sP,ab.ig (k:=3) rfl rfl (by decide) (gY rfl),.iV rfl,.iV rfl,sP,trivial⟩ ⟨oK 2,oK 0 (al aO cN),oK 0,.inl ⟨_,rfl,an.jd (by decide) rfl⟩,oR (aB _) (aD _) (.inr ⟨rfl,Z0 rfl⟩),oR (aB _) (aD _) (.inr ⟨rfl,Z0 rfl⟩),trivial⟩
 intro⟨I,D⟩;have hIl:=D.len;have hle:(soV c.A a I).length<=I.length:=Y7 (kJ _) (Nat.le_of_eq (vH D));have K:(((soV c.A a I).map Prod.fst).length+1)*16<=140737488355328:=by rw[Y9];omega
 have O:(((soV c.A a I).map λe=>e.2.src).length+1)*16<=140737488355328:=by rw[Y9];omega
 have hV:bq (strs ((soV c.A a I).map Prod.fst)) 0 (((soV c.A a I).map Prod.fst).length*1)=some (strs ((soV c.A a I).map Prod.fst)):=bp (by rw[bu,q0r]);have hW:bq (strs ((soV c.A a I).map λe=>e.2.src)) 0 (((soV c.A a I).map λe=>e.2.src).length*1)=some (strs ((soV c.A a I).map λe=>e.2.src)):=bp (by rw[bu,q0r])
 conv=>whnf
 refine Nxt.mp 3 1 c.cl _ _ _ rfl rfl rfl rfl n.o.lt (λho=>?_) (λi e x u P hn=>?_)
 rotate_left
 focus
  obtain⟨w,rfl⟩:=qb u;obtain⟨t,Q⟩:=D.step w P hn;have T:eo c.bs I++ [x]=eo c.bs (I++ [i]):=(kV P).symm;have Z:c.A.length-(I++ [i]).length<c.A.length-I.length:=by have:=t.len;simp only[Z5,q1v]at this⊢;omega
  have U:=n.o.nd;have E:=yh (so:=a) (I:=I) w
  have yes:a c.A[i].2=true->((strs ((soV c.A a I).map Prod.fst)++ [AV.ss c.A[i].1]).map mk=strs ((soV c.A a (I++ [i])).map Prod.fst)/\((soV c.A a I).map Prod.fst).length+1=((soV c.A a (I++ [i])).map Prod.fst).length)/\(strs ((soV c.A a I).map λe=>e.2.src)++ [AV.ss c.A[i].2.src]).map mk=strs ((soV c.A a (I++ [i])).map λe=>e.2.src)/\((soV c.A a I).map λe=>e.2.src).length+1=((soV c.A a (I++ [i])).map λe=>e.2.src).length:=λq=>by
   have eV:(soV c.A a (I++ [i])).map Prod.fst=(soV c.A a I).map Prod.fst++ [c.A[i].1]:=by rw[E,if_pos q,q0m];rfl
   have eW:(soV c.A a (I++ [i])).map (λe=>e.2.src)=(soV c.A a I).map (λe=>e.2.src)++ [c.A[i].2.src]:=by rw[E,if_pos q,q0m];rfl
   rw[eV,eW];exact⟨⟨dW _ _,by rw[Z5];rfl⟩,dW _ _,by rw[Z5];rfl⟩
  have no:a c.A[i].2=false->soV c.A a (I++ [i])=soV c.A a I:=λq=>by
   rw[E,q];simp
  clear E
  conv=>whnf
  refine Ent.mp 3 1 c.cl i x (eo c.bs I) (jc kT gR c.A) c.bs _ rfl rfl rfl U P u ?_
  conv=>whnf
  refine ah.sb (λz=>?_) (λz=>?_)
  focus
   have q:=yes (by rw[p];exact decide_eq_true (bk.1 z))
   conv=>whnf
   refine⟨?_,?_,?_,?_,?_,?_,trivial⟩
   all_goals
    conv=>whnf
    refine eY.grow 1 16 _ _ _ _ _ _ tyT (.old rfl) rfl rfl (.rw rfl hV) K ?_
    conv=>whnf
    refine eY.grow 1 16 _ _ _ _ _ _ tyT (.old rfl) rfl rfl (.rw rfl hW) O ?_
    conv=>whnf
    refine⟨⟨I++ [i],t⟩,Z,?_⟩
    first
    |exact Cov.ofN [(8,13),(9,15)] ⟨sP,ab.ig (k:=3) rfl rfl (by decide) (gY rfl),.rw (by decide) rfl q.1.2,.rw (by decide) rfl q.2.2,sP,trivial⟩ ⟨oK 2,oK 0 (al aO cN),oK 0,.inl ⟨_,(congrArg (λs=>some (AO.iter 1 c.cl s)) T),an.jd (by decide) rfl⟩,oR (aB _) (aD _) (.inl ⟨_,rfl,q.1.1⟩),oR (aB _) (aD _) (.inl ⟨_,rfl,q.2.1⟩),trivial⟩
    |exact Cov.ofN [(8,14),(9,15)] ⟨sP,ab.ig (k:=3) rfl rfl (by decide) (gY rfl),.rw (by decide) rfl q.1.2,.rw (by decide) rfl q.2.2,sP,trivial⟩ ⟨oK 2,oK 0 (al aO cN),oK 0,.inl ⟨_,(congrArg (λs=>some (AO.iter 1 c.cl s)) T),an.jd (by decide) rfl⟩,oR (aB _) (aD _) (.inl ⟨_,rfl,q.1.1⟩),oR (aB _) (aD _) (.inl ⟨_,rfl,q.2.1⟩),trivial⟩
  have q:=no (by rw[p];exact decide_eq_false λe=>by rw[bk.2 e]at z;cases z)
  conv=>whnf
  exact⟨⟨I++ [i],t⟩,Z,Cov.ofN [(8,8),(9,9)] ⟨sP,ab.ig (k:=3) rfl rfl (by decide) (gY rfl),.rw (by decide) rfl (by rw[q]),.rw (by decide) rfl (by rw[q]),sP,trivial⟩ ⟨oK 2,oK 0 (al aO cN),oK 0,.inl ⟨_,(congrArg (λs=>some (AO.iter 1 c.cl s)) T),an.jd (by decide) rfl⟩,oR (aB _) (aD _) (.inl ⟨_,rfl,by rw[q];exact aD _⟩),oR (aB _) (aD _) (.inl ⟨_,rfl,by rw[q];exact aD _⟩),trivial⟩⟩
 have hd:∀e∈c.A,e.2.dst=e.1:=λe u=>n.dst e (by rw[<-n.A];exact u)
 obtain⟨p1,p2⟩:=D.tc n.o.nd n.o.len ho;have pp:(soV c.A a I).Perm (c.A.filter λe=>a e.2):=p1.filter _;have eN:=iA (pp.map Prod.fst);have eS:=iA (pp.map λe=>e.2.src);have lV:((soV c.A a I).map Prod.fst).length<=1000000:=by rw[Y9];omega
 have lW:((soV c.A a I).map λe=>e.2.src).length<=1000000:=by rw[Y9];omega
 obtain⟨N,F⟩:∃N,N=aK ((soV c.A a I).map Prod.fst):=⟨_,rfl⟩;obtain⟨S,V⟩:∃S,S=aK ((soV c.A a I).map λe=>e.2.src):=⟨_,rfl⟩;have lN:N.length<=1000:=by rw[F];have:=cu ((soV c.A a I).map Prod.fst);rw[Y9]at this;omega
 have lS:S.length<=1000:=by rw[V];have:=cu ((soV c.A a I).map λe=>e.2.src);rw[Y9]at this;omega
 have gN:∀d∈N,∃r,aG c.A d=some r:=λd hd=>by
  rw[F,(bb _).2,q0e]at hd;obtain⟨e,u,rfl⟩:=hd;exact⟨e.2,cT n.o.key (BT (q1b.1 u).1)⟩
 have fin:S.flatMap (pkS N c.A)=pkF c.A a:=by rw[F,V,eN,eS];rfl
 have vN:AV.fr N.length 1 (strs N)= .fr (aK ((soV c.A a I).map Prod.fst)).length 1 (strs (aK ((soV c.A a I).map Prod.fst))):=by rw[F]
 have vS:AV.fr S.length 1 (strs S)= .fr (aK ((soV c.A a I).map λe=>e.2.src)).length 1 (strs (aK ((soV c.A a I).map λe=>e.2.src))):=by rw[V]
 clear eN eS pp
 conv=>whnf
 refine⟨_,.fr N.length 1 (strs N),_,.cons (.row (l:=strs ((soV c.A a I).map Prod.fst)) (z:=true) rfl (aB _) (by rw[bu,q0r]) rfl) .nil,⟨_,rfl,lV,vN⟩,?_⟩
 conv=>whnf
 refine⟨_,.fr S.length 1 (strs S),_,.cons (.row (l:=strs ((soV c.A a I).map λe=>e.2.src)) (z:=true) rfl (aB _) (by rw[bu,q0r]) rfl) .nil,⟨_,rfl,lW,vS⟩,?_⟩;have lP:∀(M:List Tx) (s:Tx),(pkS M c.A s).length<=M.length:=λM s=>by unfold pkS;rw[Y9];exact kJ _
 have lL:∀i,((S.take i).flatMap (pkS N c.A)).length<=1000000:=λi=>by
  have h1:=tf (L:=S.take i) (f:=pkS N c.A) (b:=1000) λs _=>Y7 (lP N s) lN
  have h2:(S.take i).length<=1000:=Y7 (by rw[q0g];exact Nat.min_le_right _ _) lS;omega
 conv=>whnf
 refine aQ.mk {i:Nat//i<=S.length} 9 (λi=>YB k c N S ((S.take i.val).flatMap (pkS N c.A)) i.val) (λi=>S.length-i.val) ⟨0,Y5 _⟩ ?_ ?_
 focus
  exact Cov.ofN [(8,10)] ⟨sP,ab.frE rfl,.iV rfl,ab.frE rfl,sI,sI,trivial⟩ ⟨oK 2,oK 0 (al aO cN),oK 0,oR (cX _) (bW _) (.inr ⟨rfl,Z0 rfl⟩),trivial⟩
 intro⟨i,Q⟩;have Q:i<=S.length:=Q;have hw:IntKind.i64.wrap ((i:Int)+1)=((i+1:Nat):Int):=by rw[aj (by omega) (by omega)];omega
 have lLi:=lL i
 conv=>whnf
 refine ah.dec (λh=>?_) (λh=>?_)
 focus
  have G:i<S.length:=q0t.1 h;have e3:(S.take (i+1)).flatMap (pkS N c.A)=(S.take i).flatMap (pkS N c.A)++pkS N c.A S[i]:=by rw[Y8 G,List.flatMap_append];simp
  conv=>whnf
  refine Idx.mk i rfl G ?_
  conv=>whnf
  refine au (fD G (q0r _)) ?_
  conv=>whnf
  refine aQ.mk {j:Nat//j<=N.length} 9 (λj=>YC k c N S ((S.take i).flatMap (pkS N c.A)++pkS (N.take j.val) c.A S[i]) S[i] i j.val) (λj=>N.length-j.val) ⟨0,Y5 _⟩ ?_ ?_
  focus
   exact Cov.ofN [(8,8)] ⟨sP,ab.frE rfl,.rw (by decide) rfl (by rw[Z5];rfl),sS,ab.frE rfl,sI,sI,ab.frE rfl,sI,sI,trivial⟩ ⟨oK 2,oK 0 (al aO cN),oK 0,oR (cX _) (bW _) (.inl ⟨_,rfl,by rw[bW];exact congrArg ruL (q0z _).symm⟩),trivial⟩
  intro⟨j,hj⟩;have hj:j<=N.length:=hj;have y:IntKind.i64.wrap ((j:Int)+1)=((j+1:Nat):Int):=by rw[aj (by omega) (by omega)];omega
  obtain⟨L,B⟩:∃L,L=(S.take i).flatMap (pkS N c.A)++pkS (N.take j) c.A S[i]:=⟨_,rfl⟩
  have bL:L.length<=1001000:=by
   have h1:=lP (N.take j) S[i];rw[q0g]at h1;rw[B,Z5];omega
  rw[<-B]
  conv=>whnf
  refine ah.dec (λh=>?_) (λh=>?_)
  focus
   have v:j<N.length:=q0t.1 h;obtain⟨r,W⟩:=gN N[j] (q0i v);have er:rul c.A N[j]=r:=by unfold rul;rw[W];rfl
   have H:=yg (R:=c.A) (s:=S[i]) v;rw[er]at H;have C:N.length-(j+1)<N.length-j:=by omega
   have y1:dh r.src S[i]=true->L++ [r]=(S.take i).flatMap (pkS N c.A)++pkS (N.take (j+1)) c.A S[i]:=λq=>by rw[H,if_pos (bk.1 q),B,q0q]
   have y0:dh r.src S[i]=false->L=(S.take i).flatMap (pkS N c.A)++pkS (N.take (j+1)) c.A S[i]:=λq=>by
    have:r.src≠S[i]:=λe=>by rw[bk.2 e]at q;cases q
    rw[H,if_neg this,q0z,B]
   have X:bq (ruL L) 0 (L.length*5)=some (ruL L):=bp (jy L);have Y:(L.length+1)*56<=140737488355328:=by omega
   clear H
   conv=>whnf
   refine Idx.mk j rfl v ?_
   conv=>whnf
   refine au (fD v (q0r _)) ?_
   conv=>whnf
   refine Ask.mk _ (bd (m:=c) (g:=gR) (k:=N[j]) bP mkR rfl rfl rfl lF W) ?_
   conv=>whnf
   refine ah.sb (λz=>?_) (λz=>?_)
   focus
    have q:=y1 z
    conv=>whnf
    refine Ask.mk _ (bd (m:=c) (g:=gR) (k:=N[j]) bP mkR rfl rfl rfl lF W) ?_
    conv=>whnf
    refine eY.grow 5 56 _ _ _ _ _ _ UP (.old rfl) rfl rfl (.rw rfl X) Y ?_
    conv=>whnf
    exact⟨⟨j+1,v⟩,C,Cov.ofN [(8,10)] ⟨sP,ab.frE rfl,.rw (by decide) rfl (by rw[<-q,Z5];rfl),sS,ab.frE rfl,sI,sI,ab.frE rfl,sI,sI (congrArg (AV.si .i64) y),trivial⟩ ⟨oK 2,oK 0 (al aO cN),oK 0,oR (cX _) (bW _) (.inl ⟨_,rfl,by rw[<-q];exact yf L r⟩),trivial⟩⟩
   have q:=y0 z
   conv=>whnf
   exact⟨⟨j+1,v⟩,C,Cov.ofN [(8,8)] ⟨sP,ab.frE rfl,.rw (by decide) rfl (by rw[<-q]),sS,ab.frE rfl,sI,sI,ab.frE rfl,sI,sI (congrArg (AV.si .i64) y),trivial⟩ ⟨oK 2,oK 0 (al aO cN),oK 0,oR (cX _) (bW _) (.inl ⟨_,rfl,by rw[<-q];exact bW L⟩),trivial⟩⟩
  have ej:j=N.length:=by have h:¬(j:Int)<(N.length:Int):=h;omega
  have eL:L=(S.take (i+1)).flatMap (pkS N c.A):=by rw[B,ej,q0k,e3]
  conv=>whnf
  exact⟨⟨i+1,G⟩,by show S.length-(i+1)<S.length-i;omega,Cov.ofN [(8,8)] ⟨sP,ab.frE rfl,.rw (by decide) rfl (by rw[eL]),ab.frE rfl,sI,sI (congrArg (AV.si .i64) hw),trivial⟩ ⟨oK 2,oK 0 (al aO cN),oK 0,oR (cX _) (bW _) (.inl ⟨_,rfl,by rw[eL];exact bW _⟩),trivial⟩⟩
 have ei:i=S.length:=by have h:¬(i:Int)<(S.length:Int):=h;omega
 have eF:(S.take i).flatMap (pkS N c.A)=pkF c.A a:=by rw[ei,q0k,fin]
 conv=>whnf
 exact⟨_,c,Re.UK rfl (congrArg List.length eF) rfl (cX _) (jy _) (by rw[eF]),n,mY rfl rfl⟩
def lG(A:Gr)(L:List Rl):Gr:=L.foldl (λA r=>du A r.dst) A
theorem GD{A:Gr}{L:List Rl}{i:Nat}(h:i<L.length):lG A (L.take (i+1))=du (lG A (L.take i)) L[i].dst:=by
 unfold lG;rw[Y8 h,q2s];rfl
theorem tg{K V:Type} [DecidableEq K]{A:List (K×V)}{k:K}{e:K×V}(h:e∈du A k):e∈A:=by
 unfold du at h;split at h
 ·exact h
 ·exact List.mem_of_mem_eraseIdx h
theorem uo:∀{L:List Rl} {A:Gr} {e:Tx×Rl},e∈lG A L->e∈A
 | [],_,_,h=>h
 |r::L,A,e,h=>tg (uo (L:=L) (A:=du A r.dst) h)
def KGo:FuncId->EP:=bg 69 [] KPk
theorem UT:aW KGo:=aw yi (by kernel_rfl) (by kernel_rfl)
def UU (k:Tx) (c:GrC) (I:List Nat) (V:List Tx) (W:List Tx):AE×AH:=(mkE [(0,.ptr 0 (0)),(1,AV.fn 128 [] [.ptr 2 0]),(5,.rw 8 0 V.length 1 0),(6,.rw 9 0 W.length 1 0),(20,.ptr 3 (0))],mkH [(0,.cells [.map 1] true),(1,c.O kT gR),(2,.cells [.ss k] true),(3,AO.iter 1 c.cl (eo c.bs I)),(8,.cells (strs (V)) true),(9,.cells (strs (W)) true)])
def UW (k:Tx) (c:GrC) (N:List Tx) (S:List Tx) (L:List Rl) (i:Nat):AE×AH:=(mkE [(0,.ptr 0 (0)),(5,.fr N.length 1 (strs N)),(9,AV.rw 8 0 L.length 5 0),(41,.fr S.length 1 (strs S)),(42,.si .i64 ((S.length:Int))),(43,.si .i64 ((i:Int)))],mkH [(0,.cells [.map 1] true),(1,c.O kT gR),(2,.cells [.ss k] true),(8,.cells (ruL (L)) true)])
def UX (k:Tx) (c:GrC) (N:List Tx) (S:List Tx) (L:List Rl) (s:Tx) (i:Nat) (j:Nat):AE×AH:=(mkE [(0,.ptr 0 (0)),(5,.fr N.length 1 (strs N)),(9,AV.rw 8 0 L.length 5 0),(11,.ss (s)),(41,.fr S.length 1 (strs S)),(42,.si .i64 ((S.length:Int))),(43,.si .i64 ((i:Int))),(47,.fr N.length 1 (strs N)),(48,.si .i64 ((N.length:Int))),(49,.si .i64 ((j:Int)))],mkH [(0,.cells [.map 1] true),(1,c.O kT gR),(2,.cells [.ss k] true),(8,.cells (ruL (L)) true)])
def grG (k:Tx) (c:GrC) (L:List Rl) (i:Nat):AE×AH:=(mkE [(0,.ptr 0 (0)),(5,.rw 8 0 L.length 5 0),(11,.rw 8 0 L.length 5 0),(12,.si .i64 ((L.length:Int))),(13,.si .i64 ((i:Int)))],mkH [(0,.cells [.map 1] true),(1,c.O kT gR),(2,.cells [.ss k] true),(8,.cells (ruL (L)) true)])
theorem IJ{k:Tx}{c:GrC}{L:List Rl}{i:Nat}{p n:Nat}{σ:AE}{H:AH}(a:Nat)(w:a≠0/\a≠1/\a≠2)(z:p<=3)(e0:bj (pa 0) σ= .ptr 0 (0))(r:ab H 9 (λb=>if b=8 then a else b) (bj (pa 5) σ) (.rw 8 0 L.length 5 0))(e:ab H 9 (λb=>if b=8 then a else b) (bj (pa 11) σ) (.rw 8 0 L.length 5 0))(f:mk (bj (pa 12) σ)= .si .i64 ((L.length:Int)))(j:mk (bj (pa 13) σ)= .si .i64 ((i:Int)))(s:H.get 0=some (.cells [.map 1] true))(t:H.get 1=some (c.O kT gR))(u:H.get 2=some (.cells [.ss k] true))(v:(∃l,H.get a=some (.cells l true)/\l.map mk=ruL (L))∨((L)=[]/\n<=a)):Cov p σ H n ((grG k c L i).1,(grG k c L i).2,9):=
 Cov.ofB (λb=>if b=8 then a else b) (by omega) (λb d=>by repeat' rw[if_neg (by omega)]) ⟨.ptr (by decide) e0,r,e,.int f,.int j,trivial⟩ ⟨.inl ⟨_,s,an.dQ (k:=2) rfl (by decide) (λb d=>by rw[if_neg (by omega)])⟩,.inl ⟨_,t,an.dQ (k:=0) (al aO cN) (by decide) (λb d=>absurd d (q1k b))⟩,.inl ⟨_,u,an.dQ (k:=0) rfl (by decide) (λb d=>absurd d (q1k b))⟩,v.elim (λ⟨l,h,g⟩=> .inl ⟨_,h,an.iW (cX _) (by rw[g,bW]) (λq=>q)⟩) (λh=> .inr ⟨by rw[h.1];rfl,h.2⟩),trivial⟩ rfl (λx m y o=>by simp only[Z3,Z4,or_false]at m o;rcases m with rfl|rfl|rfl|rfl<;>rcases o with rfl|rfl|rfl|rfl<;>simp<;>omega)
theorem GF(x:Gr)(k:Tx)(c:GrC)(n:yP x c)(W:c.A.length<=1000):ay KGo 5 69 [.ptr 0 0,.ss k] (mkH (bF (grO c) 0)) 2 (gz GrB (lG c.A (pkF c.A (λr=>decide (r.src=k)||decide (r.dst=k)))) (.si .i64 (pkF c.A (λr=>decide (r.src=k)||decide (r.dst=k))).length)):=by
 obtain⟨a,u⟩:∃a:Rl->Bool,a=λr=>decide (r.src=k)||decide (r.dst=k):=⟨_,rfl⟩
 rw[<-u]
 conv=>whnf
 refine aQ.mk {I:List Nat//RgI c I} 10 (λI=>UU k c I.val ((soV c.A a I.val).map Prod.fst) ((soV c.A a I.val).map λe=>e.2.src)) (λI=>c.A.length-I.val.length) ⟨[],.nil⟩ ?_ ?_
 focus
  exact Cov.ofN [(8,8),(9,9)] ⟨sP,ab.ig (k:=3) rfl rfl (by decide) (gY rfl),.iV rfl,.iV rfl,sP,trivial⟩ ⟨oK 2,oK 0 (al aO cN),oK 0,.inl ⟨_,rfl,an.jd (by decide) rfl⟩,oR (aB _) (aD _) (.inr ⟨rfl,Z0 rfl⟩),oR (aB _) (aD _) (.inr ⟨rfl,Z0 rfl⟩),trivial⟩
 intro⟨I,Q⟩;have hIl:=Q.len;have hle:(soV c.A a I).length<=I.length:=Y7 (kJ _) (Nat.le_of_eq (vH Q));have F:(((soV c.A a I).map Prod.fst).length+1)*16<=140737488355328:=by rw[Y9];omega
 have G:(((soV c.A a I).map λe=>e.2.src).length+1)*16<=140737488355328:=by rw[Y9];omega
 have hV:bq (strs ((soV c.A a I).map Prod.fst)) 0 (((soV c.A a I).map Prod.fst).length*1)=some (strs ((soV c.A a I).map Prod.fst)):=bp (by rw[bu,q0r]);have hW:bq (strs ((soV c.A a I).map λe=>e.2.src)) 0 (((soV c.A a I).map λe=>e.2.src).length*1)=some (strs ((soV c.A a I).map λe=>e.2.src)):=bp (by rw[bu,q0r])
 conv=>whnf
 refine Nxt.mp 3 1 c.cl _ _ _ rfl rfl rfl rfl n.o.lt (λho=>?_) (λi e x p X hn=>?_)
 rotate_left
 focus
  obtain⟨H,rfl⟩:=qb p;obtain⟨v,Y⟩:=Q.step H X hn;have J:eo c.bs I++ [x]=eo c.bs (I++ [i]):=(kV X).symm;have C:c.A.length-(I++ [i]).length<c.A.length-I.length:=by have:=v.len;simp only[Z5,q1v]at this⊢;omega
  have Z:=n.o.nd;have T:=yh (so:=a) (I:=I) H
  have yes:a c.A[i].2=true->((strs ((soV c.A a I).map Prod.fst)++ [AV.ss c.A[i].1]).map mk=strs ((soV c.A a (I++ [i])).map Prod.fst)/\((soV c.A a I).map Prod.fst).length+1=((soV c.A a (I++ [i])).map Prod.fst).length)/\(strs ((soV c.A a I).map λe=>e.2.src)++ [AV.ss c.A[i].2.src]).map mk=strs ((soV c.A a (I++ [i])).map λe=>e.2.src)/\((soV c.A a I).map λe=>e.2.src).length+1=((soV c.A a (I++ [i])).map λe=>e.2.src).length:=λq=>by
   have eV:(soV c.A a (I++ [i])).map Prod.fst=(soV c.A a I).map Prod.fst++ [c.A[i].1]:=by rw[T,if_pos q,q0m];rfl
   have eW:(soV c.A a (I++ [i])).map (λe=>e.2.src)=(soV c.A a I).map (λe=>e.2.src)++ [c.A[i].2.src]:=by rw[T,if_pos q,q0m];rfl
   rw[eV,eW];exact⟨⟨dW _ _,by rw[Z5];rfl⟩,dW _ _,by rw[Z5];rfl⟩
  have no:a c.A[i].2=false->soV c.A a (I++ [i])=soV c.A a I:=λq=>by
   rw[T,q];simp
  clear T
  conv=>whnf
  refine Ent.mp 3 1 c.cl i x (eo c.bs I) (jc kT gR c.A) c.bs _ rfl rfl rfl Z X p ?_
  conv=>whnf
  refine ah.sb (λz=>?_) (λz=>?_)
  focus
   have q:=yes (by rw[u];show(decide _||decide _)=true;rw[decide_eq_true (bk.1 z)];rfl)
   conv=>whnf
   refine⟨?_,?_,?_,?_,?_,?_,trivial⟩
   all_goals
    conv=>whnf
    refine eY.grow 1 16 _ _ _ _ _ _ tyT (.old rfl) rfl rfl (.rw rfl hV) F ?_
    conv=>whnf
    refine eY.grow 1 16 _ _ _ _ _ _ tyT (.old rfl) rfl rfl (.rw rfl hW) G ?_
    conv=>whnf
    refine⟨⟨I++ [i],v⟩,C,?_⟩
    first
    |exact Cov.ofN [(8,13),(9,15)] ⟨sP,ab.ig (k:=3) rfl rfl (by decide) (gY rfl),.rw (by decide) rfl q.1.2,.rw (by decide) rfl q.2.2,sP,trivial⟩ ⟨oK 2,oK 0 (al aO cN),oK 0,.inl ⟨_,(congrArg (λs=>some (AO.iter 1 c.cl s)) J),an.jd (by decide) rfl⟩,oR (aB _) (aD _) (.inl ⟨_,rfl,q.1.1⟩),oR (aB _) (aD _) (.inl ⟨_,rfl,q.2.1⟩),trivial⟩
    |exact Cov.ofN [(8,14),(9,15)] ⟨sP,ab.ig (k:=3) rfl rfl (by decide) (gY rfl),.rw (by decide) rfl q.1.2,.rw (by decide) rfl q.2.2,sP,trivial⟩ ⟨oK 2,oK 0 (al aO cN),oK 0,.inl ⟨_,(congrArg (λs=>some (AO.iter 1 c.cl s)) J),an.jd (by decide) rfl⟩,oR (aB _) (aD _) (.inl ⟨_,rfl,q.1.1⟩),oR (aB _) (aD _) (.inl ⟨_,rfl,q.2.1⟩),trivial⟩
  conv=>whnf
  refine ah.sb (λz2=>?_) (λz2=>?_)
  focus
   have q:=yes (by rw[u];show(decide _||decide _)=true;rw[decide_eq_true (bk.1 z2)];simp)
   conv=>whnf
   refine⟨?_,?_,?_,?_,?_,?_,trivial⟩
   all_goals
    conv=>whnf
    refine eY.grow 1 16 _ _ _ _ _ _ tyT (.old rfl) rfl rfl (.rw rfl hV) F ?_
    conv=>whnf
    refine eY.grow 1 16 _ _ _ _ _ _ tyT (.old rfl) rfl rfl (.rw rfl hW) G ?_
    conv=>whnf
    refine⟨⟨I++ [i],v⟩,C,?_⟩
    first
    |exact Cov.ofN [(8,13),(9,15)] ⟨sP,ab.ig (k:=3) rfl rfl (by decide) (gY rfl),.rw (by decide) rfl q.1.2,.rw (by decide) rfl q.2.2,sP,trivial⟩ ⟨oK 2,oK 0 (al aO cN),oK 0,.inl ⟨_,(congrArg (λs=>some (AO.iter 1 c.cl s)) J),an.jd (by decide) rfl⟩,oR (aB _) (aD _) (.inl ⟨_,rfl,q.1.1⟩),oR (aB _) (aD _) (.inl ⟨_,rfl,q.2.1⟩),trivial⟩
    |exact Cov.ofN [(8,14),(9,15)] ⟨sP,ab.ig (k:=3) rfl rfl (by decide) (gY rfl),.rw (by decide) rfl q.1.2,.rw (by decide) rfl q.2.2,sP,trivial⟩ ⟨oK 2,oK 0 (al aO cN),oK 0,.inl ⟨_,(congrArg (λs=>some (AO.iter 1 c.cl s)) J),an.jd (by decide) rfl⟩,oR (aB _) (aD _) (.inl ⟨_,rfl,q.1.1⟩),oR (aB _) (aD _) (.inl ⟨_,rfl,q.2.1⟩),trivial⟩
  have q:=no (by rw[u];show(decide _||decide _)=false;rw[decide_eq_false (λe=>by rw[bk.2 e]at z;cases z),decide_eq_false (λe=>by rw[bk.2 e]at z2;cases z2)];rfl)
  conv=>whnf
  exact⟨⟨I++ [i],v⟩,C,Cov.ofN [(8,8),(9,9)] ⟨sP,ab.ig (k:=3) rfl rfl (by decide) (gY rfl),.rw (by decide) rfl (by rw[q]),.rw (by decide) rfl (by rw[q]),sP,trivial⟩ ⟨oK 2,oK 0 (al aO cN),oK 0,.inl ⟨_,(congrArg (λs=>some (AO.iter 1 c.cl s)) J),an.jd (by decide) rfl⟩,oR (aB _) (aD _) (.inl ⟨_,rfl,by rw[q];exact aD _⟩),oR (aB _) (aD _) (.inl ⟨_,rfl,by rw[q];exact aD _⟩),trivial⟩⟩
 have hd:∀e∈c.A,e.2.dst=e.1:=λe p=>n.dst e (by rw[<-n.A];exact p)
 obtain⟨p1,p2⟩:=Q.tc n.o.nd n.o.len ho;have pp:(soV c.A a I).Perm (c.A.filter λe=>a e.2):=p1.filter _;have eN:=iA (pp.map Prod.fst);have eS:=iA (pp.map λe=>e.2.src);have lV:((soV c.A a I).map Prod.fst).length<=1000000:=by rw[Y9];omega
 have lW:((soV c.A a I).map λe=>e.2.src).length<=1000000:=by rw[Y9];omega
 obtain⟨N,U⟩:∃N,N=aK ((soV c.A a I).map Prod.fst):=⟨_,rfl⟩;obtain⟨S,hS⟩:∃S,S=aK ((soV c.A a I).map λe=>e.2.src):=⟨_,rfl⟩;have lN:N.length<=1000:=by rw[U];have:=cu ((soV c.A a I).map Prod.fst);rw[Y9]at this;omega
 have lS:S.length<=1000:=by rw[hS];have:=cu ((soV c.A a I).map λe=>e.2.src);rw[Y9]at this;omega
 have gN:∀d∈N,∃r,aG c.A d=some r:=λd hd=>by
  rw[U,(bb _).2,q0e]at hd;obtain⟨e,p,rfl⟩:=hd;exact⟨e.2,cT n.o.key (BT (q1b.1 p).1)⟩
 have fin:S.flatMap (pkS N c.A)=pkF c.A a:=by rw[U,hS,eN,eS];rfl
 have vN:AV.fr N.length 1 (strs N)= .fr (aK ((soV c.A a I).map Prod.fst)).length 1 (strs (aK ((soV c.A a I).map Prod.fst))):=by rw[U]
 have vS:AV.fr S.length 1 (strs S)= .fr (aK ((soV c.A a I).map λe=>e.2.src)).length 1 (strs (aK ((soV c.A a I).map λe=>e.2.src))):=by rw[hS]
 clear eN eS pp
 conv=>whnf
 refine⟨_,.fr N.length 1 (strs N),_,.cons (.row (l:=strs ((soV c.A a I).map Prod.fst)) (z:=true) rfl (aB _) (by rw[bu,q0r]) rfl) .nil,⟨_,rfl,lV,vN⟩,?_⟩
 conv=>whnf
 refine⟨_,.fr S.length 1 (strs S),_,.cons (.row (l:=strs ((soV c.A a I).map λe=>e.2.src)) (z:=true) rfl (aB _) (by rw[bu,q0r]) rfl) .nil,⟨_,rfl,lW,vS⟩,?_⟩;have lP:∀(M:List Tx) (s:Tx),(pkS M c.A s).length<=M.length:=λM s=>by unfold pkS;rw[Y9];exact kJ _
 have lL:∀i,((S.take i).flatMap (pkS N c.A)).length<=1000000:=λi=>by
  have h1:=tf (L:=S.take i) (f:=pkS N c.A) (b:=1000) λs _=>Y7 (lP N s) lN
  have h2:(S.take i).length<=1000:=Y7 (by rw[q0g];exact Nat.min_le_right _ _) lS;omega
 conv=>whnf
 refine aQ.mk {i:Nat//i<=S.length} 9 (λi=>UW k c N S ((S.take i.val).flatMap (pkS N c.A)) i.val) (λi=>S.length-i.val) ⟨0,Y5 _⟩ ?_ ?_
 focus
  exact Cov.ofN [(8,10)] ⟨sP,ab.frE rfl,.iV rfl,ab.frE rfl,sI,sI,trivial⟩ ⟨oK 2,oK 0 (al aO cN),oK 0,oR (cX _) (bW _) (.inr ⟨rfl,Z0 rfl⟩),trivial⟩
 intro⟨i,Y⟩;have Y:i<=S.length:=Y;have hw:IntKind.i64.wrap ((i:Int)+1)=((i+1:Nat):Int):=by rw[aj (by omega) (by omega)];omega
 have lLi:=lL i
 conv=>whnf
 refine ah.dec (λh=>?_) (λh=>?_)
 focus
  have w:i<S.length:=q0t.1 h;have e3:(S.take (i+1)).flatMap (pkS N c.A)=(S.take i).flatMap (pkS N c.A)++pkS N c.A S[i]:=by rw[Y8 w,List.flatMap_append];simp
  conv=>whnf
  refine Idx.mk i rfl w ?_
  conv=>whnf
  refine au (fD w (q0r _)) ?_
  conv=>whnf
  refine aQ.mk {j:Nat//j<=N.length} 9 (λj=>UX k c N S ((S.take i).flatMap (pkS N c.A)++pkS (N.take j.val) c.A S[i]) S[i] i j.val) (λj=>N.length-j.val) ⟨0,Y5 _⟩ ?_ ?_
  focus
   exact Cov.ofN [(8,8)] ⟨sP,ab.frE rfl,.rw (by decide) rfl (by rw[Z5];rfl),sS,ab.frE rfl,sI,sI,ab.frE rfl,sI,sI,trivial⟩ ⟨oK 2,oK 0 (al aO cN),oK 0,oR (cX _) (bW _) (.inl ⟨_,rfl,by rw[bW];exact congrArg ruL (q0z _).symm⟩),trivial⟩
  intro⟨j,hj⟩;have hj:j<=N.length:=hj;have K:IntKind.i64.wrap ((j:Int)+1)=((j+1:Nat):Int):=by rw[aj (by omega) (by omega)];omega
  obtain⟨L,B⟩:∃L,L=(S.take i).flatMap (pkS N c.A)++pkS (N.take j) c.A S[i]:=⟨_,rfl⟩
  have bL:L.length<=1001000:=by
   have h1:=lP (N.take j) S[i];rw[q0g]at h1;rw[B,Z5];omega
  rw[<-B]
  conv=>whnf
  refine ah.dec (λh=>?_) (λh=>?_)
  focus
   have D:j<N.length:=q0t.1 h;obtain⟨r,hr⟩:=gN N[j] (q0i D);have er:rul c.A N[j]=r:=by unfold rul;rw[hr];rfl
   have V:=yg (R:=c.A) (s:=S[i]) D;rw[er]at V;have y:N.length-(j+1)<N.length-j:=by omega
   have y1:dh r.src S[i]=true->L++ [r]=(S.take i).flatMap (pkS N c.A)++pkS (N.take (j+1)) c.A S[i]:=λq=>by rw[V,if_pos (bk.1 q),B,q0q]
   have y0:dh r.src S[i]=false->L=(S.take i).flatMap (pkS N c.A)++pkS (N.take (j+1)) c.A S[i]:=λq=>by
    have:r.src≠S[i]:=λe=>by rw[bk.2 e]at q;cases q
    rw[V,if_neg this,q0z,B]
   have hsL:bq (ruL L) 0 (L.length*5)=some (ruL L):=bp (jy L);have hbL:(L.length+1)*56<=140737488355328:=by omega
   clear V
   conv=>whnf
   refine Idx.mk j rfl D ?_
   conv=>whnf
   refine au (fD D (q0r _)) ?_
   conv=>whnf
   refine Ask.mk _ (bd (m:=c) (g:=gR) (k:=N[j]) bP mkR rfl rfl rfl lF hr) ?_
   conv=>whnf
   refine ah.sb (λz=>?_) (λz=>?_)
   focus
    have q:=y1 z
    conv=>whnf
    refine Ask.mk _ (bd (m:=c) (g:=gR) (k:=N[j]) bP mkR rfl rfl rfl lF hr) ?_
    conv=>whnf
    refine eY.grow 5 56 _ _ _ _ _ _ UP (.old rfl) rfl rfl (.rw rfl hsL) hbL ?_
    conv=>whnf
    exact⟨⟨j+1,D⟩,y,Cov.ofN [(8,10)] ⟨sP,ab.frE rfl,.rw (by decide) rfl (by rw[<-q,Z5];rfl),sS,ab.frE rfl,sI,sI,ab.frE rfl,sI,sI (congrArg (AV.si .i64) K),trivial⟩ ⟨oK 2,oK 0 (al aO cN),oK 0,oR (cX _) (bW _) (.inl ⟨_,rfl,by rw[<-q];exact yf L r⟩),trivial⟩⟩
   have q:=y0 z
   conv=>whnf
   exact⟨⟨j+1,D⟩,y,Cov.ofN [(8,8)] ⟨sP,ab.frE rfl,.rw (by decide) rfl (by rw[<-q]),sS,ab.frE rfl,sI,sI,ab.frE rfl,sI,sI (congrArg (AV.si .i64) K),trivial⟩ ⟨oK 2,oK 0 (al aO cN),oK 0,oR (cX _) (bW _) (.inl ⟨_,rfl,by rw[<-q];exact bW L⟩),trivial⟩⟩
  have ej:j=N.length:=by have h:¬(j:Int)<(N.length:Int):=h;omega
  have eL:L=(S.take (i+1)).flatMap (pkS N c.A):=by rw[B,ej,q0k,e3]
  conv=>whnf
  exact⟨⟨i+1,w⟩,by show S.length-(i+1)<S.length-i;omega,Cov.ofN [(8,8)] ⟨sP,ab.frE rfl,.rw (by decide) rfl (by rw[eL]),ab.frE rfl,sI,sI (congrArg (AV.si .i64) hw),trivial⟩ ⟨oK 2,oK 0 (al aO cN),oK 0,oR (cX _) (bW _) (.inl ⟨_,rfl,by rw[eL];exact bW _⟩),trivial⟩⟩
 have ei:i=S.length:=by have h:¬(i:Int)<(S.length:Int):=h;omega
 have eF:(S.take i).flatMap (pkS N c.A)=pkF c.A a:=by rw[ei,q0k,fin]
 have hLl:=lL i;obtain⟨L,B⟩:∃L,L=(S.take i).flatMap (pkS N c.A):=⟨_,rfl⟩;rw[<-B]at hLl eF;rw[<-B]
 conv=>whnf
 refine aQ.mk {t:Nat×GrC//t.1<=L.length/\t.2.Ok/\t.2.A=lG c.A (L.take t.1)} 9 (λt=>grG k t.val.2 L t.val.1) (λt=>L.length-t.val.1) ⟨(0,c),Y5 _,n.o,rfl⟩ ?_ ?_
 focus
  exact IJ (k:=k) (c:=c) (L:=L) (i:=0) 8 (by decide) (by decide) rfl (.rw (by decide) rfl rfl) (.rw (by decide) rfl rfl) rfl rfl rfl rfl rfl (.inl ⟨_,rfl,bW L⟩)
 intro⟨(m,E),C,O,P⟩;have C:m<=L.length:=C;have hwm:IntKind.i64.wrap ((m:Int)+1)=((m+1:Nat):Int):=by rw[aj (by omega) (by omega)];omega
 conv=>whnf
 refine ah.dec (λh=>?_) (λh=>?_)
 focus
  have w:m<L.length:=q0t.1 h;have y:L.length-(m+1)<L.length-m:=by omega
  have e5:(E.del L[m].dst).A=lG c.A (L.take (m+1)):=by rw[yc,P,GD w]
  have sub:=qd w (q0w (m*5));have go2:=O.del L[m].dst
  conv=>whnf
  refine Idx.mk m rfl w ?_
  conv=>whnf
  refine au sub ?_
  conv=>whnf
  refine Ask.mk _ (um (m:=E) (g:=gR) (k:=L[m].dst) bP mkR rfl rfl rfl) ?_
  conv=>whnf
  refine⟨⟨(m+1,E.del L[m].dst),w,go2,e5⟩,y,IJ (k:=k) (c:=E.del L[m].dst) (L:=L) (i:=m+1) 8 ?_ ?_ ?_ ?_ ?_ ?_ ?_ ?_ ?_ ?_ ?_⟩
  ·exact by decide
  ·exact by decide
  ·exact rfl
  ·exact .rw (by decide) rfl rfl
  ·exact .rw (by decide) rfl rfl
  ·exact rfl
  ·exact congrArg (AV.si .i64) hwm
  ·exact rfl
  ·exact rfl
  ·exact rfl
  ·exact .inl ⟨_,rfl,bW L⟩
 have em:m=L.length:=by have h:¬(m:Int)<(L.length:Int):=h;omega
 have e6:E.A=lG c.A (pkF c.A a):=by rw[P,em,q0k,eF]
 have e7:(AV.si .i64 (L.length:Int))= .si .i64 ((pkF c.A a).length:Int):=by rw[eF]
 have e8:∀e∈lG c.A (pkF c.A a),e∈c.A:=λe=>uo
 conv=>whnf
 exact⟨_,E,.told (congrArg mkT e7),⟨e6,O,λe p=>n.dst e (by rw[<-n.A];exact e8 e p),λe p=>n.lab e (by rw[<-n.A];exact e8 e p)⟩,mY rfl rfl⟩
def vg (x:Gr):List Rl:=pkF x λ_=>true
def ofG (x:Gr) (k:Tx):List Rl:=pkF x λr=>decide (r.src=k)
def qF(k:Tx)(r:Rl):Bool:=decide (r.src=k)||decide (r.dst=k)
def u5 (x:Gr) (k:Tx):Gr:=lG x (pkF x (qF k))
def On(x:Gr)(cs:List AV)(v:AV):Prop:=cs=[]/\x.length<=1000/\v= .fr (vg x).length 5 (ruL (vg x))
def Oo(x:Gr)(cs:List AV)(v:AV):Prop:=∃k,cs=[.ss k]/\x.length<=1000/\v= .fr (ofG x k).length 5 (ruL (ofG x k))
def Xb(x:Gr)(cs:List AV)(a:Gr)(v:AV):Prop:=∃k,cs=[.ss k]/\x.length<=1000/\a=u5 x k/\v= .si .i64 ((pkF x (qF k)).length:Int)
theorem Ra:ai 53 (dL 2 GrB On):=(gA yi 5 (by kernel_rfl) GrB rfl (by decide) λx cs h v ⟨b,d,e,f⟩=>by
 subst b d f;exact⟨rfl,rfl,λc a=>by have g:=a.A;subst g;exact Ac _ c a e⟩).ol
theorem Ot:ai 133 (dL 2 GrB Oo):=(gA yi 5 (by kernel_rfl) GrB rfl (by decide) λx cs h v ⟨b,k,d,e,f⟩=>by
 subst b d f;exact⟨rfl,rfl,λc a=>by have g:=a.A;subst g;exact Ev _ k c a e⟩).ol
theorem UY:ai 133 (gT 2 GrB λx cs a v=>a=x/\Oo x cs v):=u4 (ax yi 5 _) (by kernel_rfl) GrB rfl (by decide) λx cs a v ⟨d,k,e,f,g⟩=>by
 subst d e g;exact⟨rfl,rfl,λc b=>by have h:=b.A;subst h;exact Ev _ k c b f⟩
theorem Rb:ai 53 (gT 2 GrB λx cs a v=>a=x/\On x cs v):=u4 (ax yi 5 _) (by kernel_rfl) GrB rfl (by decide) λx cs a v ⟨d,e,f,g⟩=>by
 subst d e g;exact⟨rfl,rfl,λc b=>by have h:=b.A;subst h;exact Ac _ c b f⟩
theorem Ou:ai 69 (cL 2 GrB Xb):=gA UT 5 (by kernel_rfl) GrB rfl (by decide) λx cs h v ⟨k,b,d,e,f⟩=>by
 subst b e f;exact⟨rfl,rfl,λc a=>by have g:=a.A;subst g;exact GF _ k c a d⟩
def pG:Option Rl->AV
 |none=> .tup [.agg [.str [],.str [],.int .i64 0,.int .i64 0,.int .i64 0],.sb false]
 |some r=> .tup [gR r,.sb true]
def Xc(x:Gr)(cs:List AV)(v:AV):Prop:=∃k,cs=[.ss k]/\v=pG (aG x k)
theorem Ov:ai 120 (dL 2 GrB Xc):=(gA az 3 (by kernel_rfl) GrB rfl (by decide) λx cs d v ⟨e,k,f,h⟩=>by
 subst e f h;refine⟨rfl,by cases aG d k<;>rfl,λc b=>?_⟩;have a:=b.A;subst a;cases a:aG c.A k with
 |none=>
  conv=>whnf
  refine Ask.mk _ (bd (m:=c) (g:=gR) bP mkR rfl rfl rfl lF a) ?_
  conv=>whnf
  exact⟨_,c,.told rfl,b,mY rfl rfl⟩
 |some r=>
  conv=>whnf
  refine Ask.mk _ (bd (m:=c) (g:=gR) bP mkR rfl rfl rfl lF a) ?_
  conv=>whnf
  exact⟨_,c,.told rfl,b,mY rfl rfl⟩).ol
def BU (x:Gr) (r:Rl):Gr×AV:=
 if cS r=false then(x,.si .i64 1)else if(aG x r.dst).isSome=true then(x,.si .i64 6)
 else if(aG x r.src).isSome=true∨0<(ofG x r.dst).length then(x,.si .i64 10)else(eg x r.dst r,.si .i64 0)
def SJ(x:Gr)(cs:List AV)(a:Gr)(v:AV):Prop:=∃r y,cs=[gR r]/\x.length<=1000/\BU x r=y/\a=y.1/\v=y.2/\gy v=true
def Rc:DT:=[(5,[(some 1000000,[]),(none,[0,1,2,3,4,5,6,7,8,9,10,11,12])]),(8,[(some 1000000,[]),(none,[0,1,2,3,4,5,6,7,8,9,10,11,12])])]
def KGa:FuncId->EP:=bg 90 Rc (aq 89 (cW UQ) (aq 133 (gT 2 GrB λx cs a v=>a=x/\Oo x cs v) evP))
theorem UZ:aW KGa:=aw (ae (ae az UY) W6) (by kernel_rfl) (by kernel_rfl)
theorem KX(x:Gr)(r:Rl)(c:GrC)(n:yP x c)(d:x.length<=1000){y:Gr×AV}(p:BU x r=y):ay KGa 5 90 [.ptr 0 0,gR r] (mkH (bF (grO c) 0)) 2 (gz GrB y.1 y.2):=by
 have B:=n.A;have G:cS r=false->y=(x,.si .i64 1):=λq=>by rw[<-p];unfold BU;rw[if_pos q]
 have H:cS r=true->∀u,aG x r.dst=some u->y=(x,.si .i64 6):=λq u f=>by rw[<-p];unfold BU;rw[q,f];rfl
 have I:cS r=true->aG x r.dst=none->∀u,aG x r.src=some u->y=(x,.si .i64 10):=λq f u s=>by rw[<-p];unfold BU;rw[q,f,s];simp
 have J:cS r=true->aG x r.dst=none->aG x r.src=none->((ofG x r.dst).length:Int)>0->y=(x,.si .i64 10):=λq f s F=>by rw[<-p];unfold BU;rw[q,f,s,if_neg (by simp),if_neg (by simp),if_pos (.inr (by omega))]
 have K:cS r=true->aG x r.dst=none->aG x r.src=none->¬((ofG x r.dst).length:Int)>0->y=(eg x r.dst r,.si .i64 0):=λq f s F=>by rw[<-p];unfold BU;rw[q,f,s,if_neg (by simp),if_neg (by simp),if_neg (λh=>h.elim (by simp) (λh=>F (by omega)))]
 obtain⟨L,M⟩:=y
 conv=>whnf
 refine⟨_,_,_,.cons .same .nil,⟨r,rfl,rfl⟩,?_⟩
 conv=>whnf
 refine ah.nsb (λi=>?_) (λi=>?_)
 focus
  have e:=G i;injection e with e1 e2;subst e1 e2
  conv=>whnf
  exact⟨_,c,.told rfl,n,mY rfl rfl⟩
 cases t:aG c.A r.dst with
 |some u=>
  have e:=H i u (by rw[<-B];exact t);injection e with e1 e2;subst e1 e2
  conv=>whnf
  refine⟨?_,trivial⟩
  conv=>whnf
  refine Ask.mk _ (bd (m:=c) (g:=gR) (k:=r.dst) bP mkR rfl rfl rfl lF t) ?_
  conv=>whnf
  exact⟨_,c,.told rfl,n,mY rfl rfl⟩
 |none=>
  have j:aG x r.dst=none:=by rw[<-B];exact t
  cases C:aG c.A r.src with
  |some u=>
   have e:=I i j u (by rw[<-B];exact C);injection e with e1 e2;subst e1 e2
   conv=>whnf
   refine⟨?_,trivial⟩
   conv=>whnf
   refine Ask.mk _ (bd (m:=c) (g:=gR) (k:=r.dst) bP mkR rfl rfl rfl lF t) ?_
   conv=>whnf
   refine⟨?_,trivial⟩
   conv=>whnf
   refine Ask.mk _ (bd (m:=c) (g:=gR) (k:=r.src) bP mkR rfl rfl rfl lF C) ?_
   conv=>whnf
   exact⟨_,c,.told rfl,n,mY rfl rfl⟩
  |none=>
   have w:aG x r.src=none:=by rw[<-B];exact C
   conv=>whnf
   refine⟨?_,trivial⟩
   conv=>whnf
   refine Ask.mk _ (bd (m:=c) (g:=gR) (k:=r.dst) bP mkR rfl rfl rfl lF t) ?_
   conv=>whnf
   refine⟨?_,trivial⟩
   conv=>whnf
   refine Ask.mk _ (bd (m:=c) (g:=gR) (k:=r.src) bP mkR rfl rfl rfl lF C) ?_
   conv=>whnf
   refine⟨x,[.ss r.dst],_,_,_,c,rfl,by decide,.cons .same .nil,n,W7 rfl rfl,⟨rfl,r.dst,rfl,d,rfl⟩,λz a=>?_⟩;have l:=a.A
   conv=>whnf
   refine ah.dec (λz2=>?_) (λz2=>?_)
   focus
    have e:=J i j w z2;injection e with e1 e2;subst e1 e2
    conv=>whnf
    exact⟨_,z,.told rfl,a,mY rfl rfl⟩
   have e:=K i j w z2;injection e with e1 e2;subst e1 e2;have D:(z.put r.dst r).A=eg x r.dst r:=by rw[Et,l]
   have E:yP (eg x r.dst r) (z.put r.dst r):=⟨D,a.o.put _ _,λe b=>by
    rw[<-D]at b;rcases nS b with rfl|b
    ·rfl
    ·exact a.dst e (by rw[<-l];exact b),λe b=>by
    rw[<-D]at b;rcases nS b with rfl|b
    ·exact i
    ·exact a.lab e (by rw[<-l];exact b)⟩
   conv=>whnf
   refine Ask.mk _ (rD (m:=z) (g:=gR) (v:=r) (k:=r.dst) bP mkR rfl rfl rfl rfl) ?_
   conv=>whnf
   exact⟨_,z.put r.dst r,.told rfl,E,mY rfl rfl⟩
theorem Rd:ai 90 (cL 2 GrB SJ):=gA UZ 5 (by kernel_rfl) GrB rfl (by decide) λx cs i v ⟨r,y,a,b,d,e,f,g⟩=>by
 subst a e f;exact⟨rfl,g,λc h=>KX x r c h b d⟩
def qG(x:Gr)(s d:Tx):Gr×AV:=match aG x d with
 |none=>(x,.tup [.agg [.str [],.str [],.int .i64 0,.int .i64 0,.int .i64 0],.si .i64 5])
 |some r=>if r.src=s then(du x d,.tup [gR r,.si .i64 0])else(x,.tup [.agg [.str [],.str [],.int .i64 0,.int .i64 0,.int .i64 0],.si .i64 5])
def Xd(x:Gr)(cs:List AV)(a:Gr)(v:AV):Prop:=∃s d y,cs=[.ss s,.ss d]/\qG x s d=y/\a=y.1/\v=y.2
theorem KY(x:Gr)(s d:Tx):gy (qG x s d).2=true:=by unfold qG;repeat' (first|rfl|split)
theorem Ow:ai 109 (cL 2 GrB Xd):=gA az 3 (by kernel_rfl) GrB rfl (by decide) λx cs p v ⟨s,d,y,h,a,j,l⟩=>by
 subst h j l;refine⟨rfl,by rw[<-a];exact KY _ _ _,λc b=>?_⟩;have f:=b.A;unfold qG at a;cases h:aG c.A d with
 |none=>
  rw[<-f,h]at a;subst a
  conv=>whnf
  refine Ask.mk _ (bd (m:=c) (g:=gR) (k:=d) bP mkR rfl rfl rfl lF h) ?_
  conv=>whnf
  exact⟨_,c,.told rfl,⟨rfl,b.o,by rw[f];exact b.dst,by rw[f];exact b.lab⟩,mY rfl rfl⟩
 |some r=>
  rw[<-f,h]at a;have a:(if r.src=s then(du c.A d,AV.tup [gR r,.si .i64 0])else(c.A,AV.tup [.agg [.str [],.str [],.int .i64 0,.int .i64 0,.int .i64 0],.si .i64 5]))=y:=a
  conv=>whnf
  refine Ask.mk _ (bd (m:=c) (g:=gR) (k:=d) bP mkR rfl rfl rfl lF h) ?_
  conv=>whnf
  refine ah.nsb (λz=>?_) (λz=>?_)
  focus
   rw[if_neg (λe=>by rw[bk.2 e]at z;cases z)]at a;subst a
   conv=>whnf
   exact⟨_,c,.told rfl,⟨rfl,b.o,by rw[f];exact b.dst,by rw[f];exact b.lab⟩,mY rfl rfl⟩
  rw[if_pos (bk.1 z)]at a;subst a;have n:(c.del d).A=du c.A d:=yc _ _
  conv=>whnf
  refine Ask.mk _ (um (m:=c) (g:=gR) (k:=d) bP mkR rfl rfl rfl) ?_
  conv=>whnf
  exact⟨_,c.del d,.told rfl,⟨n,b.o.del d,λe i=>b.dst e (by rw[<-f];exact tg i),λe i=>b.lab e (by rw[<-f];exact tg i)⟩,mY rfl rfl⟩
theorem Rf:ai 52 (sX 2 GrB λcs y=>cs=[]/\y=[]):=N8 (ax az 3 _) (by kernel_rfl) GrB rfl (by decide) λcs y ⟨f,g⟩=>by
 subst f g;refine⟨rfl,?_⟩
 conv=>whnf
 refine⟨(MpC.no:GrC),⟨rfl,MpC.ya,λ_ h=>(by cases h),λ_ h=>(by cases h)⟩,Cov.ofR (λb=>1-b) (Y5 _) (λb j=>absurd j (q1k b)) (λx a=>?_) (λx a=>?_) (λx a y d e=>?_)⟩
 ·simp only[Z3,Z4,or_false]at a;subst a;exact .ptr (by decide) rfl
 ·simp only[bF,grO,GrB,Z3,Z4,or_false]at a;rcases a with rfl|rfl
  ·refine⟨by decide,.inl ⟨_,rfl,.cells (Z6 _) id λi k c=>?_⟩⟩
   match i,c with
   |0,c=>injection c with c;subst c;exact⟨_,rfl,.map (by decide) rfl⟩
   |i+1,c=>simp at c
  ·exact⟨by decide,.inl ⟨_,rfl,.GA⟩⟩
 ·simp only[bF,grO,GrB,Z3,Z4,or_false]at a d;rcases a with rfl|rfl<;>rcases d with rfl|rfl<;>simp at e⊢
section
variable {r s:Nat->Nat}
mutual
theorem IK:∀a:AV,ren r (ren s a)=ren (λb=>r (s b)) a
 | .agg l=>congrArg AV.agg (lH l)
 | .tup l=>congrArg AV.tup (lH l)
 | .fn f a c=>by simp only[ren,lH a,lH c]
 | .ptr _ _| .sl _ _ _ _ _| .esl _| .map _| .sy _ _ _ _ _| .rw _ _ _ _ _| .int _ _| .str _| .bool _| .nil| .nsl| .any _| .bad| .si _ _| .sb _| .ss _| .fr _ _ _| .fa _ _=>rfl
theorem lH:∀l:List AV,dw r (dw s l)=dw (λb=>r (s b)) l
 | []=>rfl
 |a::l=>by simp only[dw,IK a,lH l]
end
theorem yj:∀l:List (AV×AV),sq r (sq s l)=sq (λb=>r (s b)) l
 | []=>rfl
 |a::l=>by simp only[sq,IK,yj l]
theorem Ox(o:AO):bT r (bT s o)=bT (λb=>r (s b)) o:=by
 cases o with
 |cells l z=>exact congrArg (AO.cells · z) (lH l)
 |map es=>exact congrArg AO.map (yj es)
 |mp es bs cl=>exact congrArg (AO.mp · bs cl) (yj es)
 |ro l=>exact congrArg AO.ro (lH l)
 |iter b k seen=>rfl
 |sep Q=>rfl
end
def yk{X C Y E:Type}(k:Nat)(B:Obj X C)(D:Obj Y E)(R:X->List AV->X->Y->Prop)(args:List AV)(H:AH)(n:Nat)(κ:PK):Prop:=match args with
 |a::f=>∃b p x cs d y c,a=aA p/\b<n/\n<800000/\Res H n f c cs/\c.get b=some (.sep (B.Q x p))/\ic c (k+D.k+1) n=true/\R x cs d y/\∀e,κ (aA e) ((c.set (some (.sep (B.Q d p))) aa b).set (some (.sep (D.Q y e))) aa (n+k+D.k)) (n+k+D.k+1)
 |_=>False
def Oy{Y E:Type}(D:Obj Y E)(k:Nat)(y:Y)(v:AV)(O:List AO):Prop:=∃e,D.ok y e/\v= .ptr k 0/\O=(D.O e).map (bT λj=>k+j)
theorem yl{H:AH}:∀{k m n:Nat},m<=k->ic H k n=true->ic H m n=true
 |_,0,_,_,_=>rfl
 |0,m+1,_,a,_=>by omega
 |k+1,m+1,n,a,h=>by
  unfold ic at h⊢;split at h
  ·exact yl (by omega) h
  ·cases h
theorem ai.os {X C Y E:Type} {f:FuncId} {k:Nat} {B:Obj X C} {D:Obj Y E} (hk9:k<1000) (hD9:D.k<1000) {R:X->List AV->X->Y->Prop}
 (h:ai f (xX k B λx cs G P=>∃y,R x cs G y/\P=Oy D k y)):ai f (yk k B D R):=λargs H n κ V φ h0 hp vs K hr l hk2=>by
 unfold yk at V;split at V
 ·rename_i a ar;obtain⟨b,p,x,cs,G,y,H1,h1,hbn,hn9,I,hb,c,hR,hκ⟩:=V;refine h (a::ar) H n (λv2 J n2=>∃v O,Oy D k y v O/\v2=ren (λj=>n+j) v/\J=Gm n k O (H1.set (some (.sep (B.Q G p))) aa b)/\n2=n+k+O.length) ⟨b,p,x,cs,G,Oy D k y,H1,h1,hbn,hn9,I,hb,yl (by omega) c,⟨y,hR,rfl⟩,λv O hP=>⟨v,O,hP,rfl,rfl,rfl⟩⟩ φ h0 hp vs K hr l λχ v2 J n2 u g hle hg hu ⟨v,O,⟨e,f1,f2,f3⟩,f4,f5,f6⟩=>?_
  have L:O.length=D.k:=by rw[f3,Y9,D.len]
  have hv:v2= .ptr (n+k) 0:=by rw[f4,f2];rfl
  obtain⟨m,hm⟩:∃m,m=n+k+D.k:=⟨_,rfl⟩;rw[L,<-hm]at f6;have hmm:m<900000:=by omega
  obtain⟨ψ,l1,t⟩:=hg.hole;rw[f6]at t;have d:(O.map (bT λj=>n+j)).length=D.k:=by rw[Y9,L]
  have at1:∀i o,(D.O e)[i]?=some o->J.get (n+k+i)=some (bT (λj=>n+k+j) o):=λi o W=>by
   rw[f5];refine vD (by rw[d];omega) ?_;rw[f3,q0s,q0s,W];show some (bT _ (bT _ o))=_;rw[Ox];congr 2;funext j;exact(q1m _ _ _).symm
  have M:∀i o,(D.O e)[i]?=some o->(J.set (some (.sep .emp)) aa m).get (n+k+i)=some (bT (λj=>n+k+j) o):=λi o W=>by
   have:=(D.lt e W).1;exact PM.gne (by omega) (by omega) (at1 i o W)
  have sl:xN (J.set (some (.sep .emp)) aa m) (kI (n+k) D.k) (D.O e):=⟨nO _ _,by rw[dg,D.len],λi s o h1 h2=>by
   obtain⟨h3,rfl⟩:=pw h1;obtain⟨_,h4,h5⟩:=D.lt e h2;refine⟨?_,h4,by rw[D.len];exact h5⟩;rw[M i o h2];exact congrArg some (eG (m:=D.k) (λj hj=>(mr hj).symm) h5)⟩
  obtain⟨a0,l0,z0,N⟩:=D.pos e;have U:=M 0 _ N;rcases t.live _ _ U with⟨_,w⟩|⟨q,ob,w,_⟩
  ·cases w
  rw[q2o]at w;have eq:q=⟨(q.B,q.s).1,(q.B,q.s).2,q.T⟩:=rfl
  rw[eq]at w
  obtain⟨ω,_,l3,_,hr3⟩:=t.Gk (O:=D.O e) (S:=kI (n+k) D.k) (b:=m) (p:=(q.B,q.s)) (Q:=D.Q y (q.B,q.s)) (H':=(H1.set (some (.sep (B.Q G p))) aa b).set (some (.sep (D.Q y (q.B,q.s)))) aa m) sl (PM.geq (by omega)) (λq=>by have:=ib q;omega) (s0:=n+k) (by rw[sW (D.k0 e),q2o]) w (λx o hx=>by
   rcases PM.ak aa _ m x o hx with⟨Z,A⟩|⟨Z,A⟩
   ·injection A with A;exact .inl ⟨Z,A.symm⟩
   ·have hout:x<n∨m<x:=by
     rcases PM.ak aa _ b x o A with⟨j3,_⟩|⟨_,j4⟩
     ·exact .inl (by omega)
     ·rcases q3b x n with q|q
      ·exact .inl q
      ·exact .inr (Nat.lt_of_not_le λq2=>lB c q (by omega) j4)
    refine .inr ⟨Z,λq=>by have:=ib q;omega,PM.gne (by omega) Z ?_⟩;rw[f5];exact mU (by rw[d];omega) (by rw[d];omega) A) λz X h hh=>⟨e,f1,hh⟩
  refine hk2 ω (aA (q.B,q.s)) _ _ u g ((hle.trans l1).trans l3) hr3 ?_ (by rw[hm];exact hκ (q.B,q.s));rw[hv]at hu;obtain⟨pl,F,g2⟩:=hu.cw;have F:=l1.b _ _ F;rw[w]at F;injection F with F;subst g2 F;exact rfl
 ·exact V.elim
def pH(L:List Rl):Gr:=L.foldl (λA r=>eg A r.dst r) []
def od (x:Gr):Gr:=pH (vg x)
theorem GG{L:List Rl}{i:Nat}(h:i<L.length):pH (L.take (i+1))=eg (pH (L.take i)) L[i].dst L[i]:=by
 unfold pH;rw[Y8 h,q2s];rfl
def U0(x:Gr)(cs:List AV)(a y:Gr):Prop:=cs=[]/\x.length<=1000/\a=x/\y=od x
def KGc:FuncId->EP:=bg 67 [] (aq 53 (gT 2 GrB λx cs a v=>a=x/\On x cs v) evP)
theorem U1:aW KGc:=aw (ae az Rb) (by kernel_rfl) (by kernel_rfl)
def grY (c:GrC) (a:GrC) (L:List Rl) (i:Nat):AE×AH:=(mkE [(3,.ptr 3 (0)),(10,.fr L.length 5 (ruL L)),(11,.si .i64 ((L.length:Int))),(12,.si .i64 ((i:Int)))],mkH [(0,.cells [.map 1] true),(1,c.O kT gR),(2,a.O kT gR),(3,.cells [.map 2] true)])
theorem GH(x:Gr)(c:GrC)(w:yP x c)(l:x.length<=1000):ay KGc 5 67 [.ptr 0 0] (mkH (bF (grO c) 0)) 2 (N7 GrB 2 x (Oy GrB 2 (od x))):=by
 obtain⟨L,C⟩:∃L,L=vg x:=⟨_,rfl⟩
 have D:∀r∈L,cS r=true:=λr hr=>by
  rw[C]at hr;have E:(x.map Prod.fst).Nodup:=by rw[<-w.A];exact w.o.key
  exact w.lab _ ((qe E w.dst r).1 hr).1
 have I:L.length<=1000000:=by
  rw[C];unfold vg pkF;have M:=cu ((x.filter λ_=>true).map λe=>e.2.src);have N:=cu ((x.filter λ_=>true).map Prod.fst);rw[Y9]at M N;have z:(x.filter λ_=>true).length<=1000:=Y7 (kJ _) l
  have P:=tf (L:=aK ((x.filter λ_=>true).map λe=>e.2.src)) (f:=pkS (aK ((x.filter λ_=>true).map Prod.fst)) x) (b:=1000) λs _=>by
   unfold pkS;rw[Y9];exact Y7 (kJ _) (by omega)
  have Q:(aK ((x.filter λ_=>true).map λe=>e.2.src)).length*1000<=1000*1000:=q1h _ (by omega);exact Y7 P Q
 have n:od x=pH L:=by rw[C];rfl
 rw[n];have R:On x [] (.fr L.length 5 (ruL L)):=⟨rfl,l,by rw[C]⟩;clear C n
 conv=>whnf
 refine⟨x,[],_,_,_,c,rfl,by decide,.nil,w,W7 rfl rfl,⟨rfl,R⟩,λJ F=>?_⟩
 conv=>whnf
 refine aQ.mk {t:Nat×GrC//t.1<=L.length/\yP (pH (L.take t.1)) t.2} 4 (λt=>grY J t.val.2 L t.val.1) (λt=>L.length-t.val.1) ⟨(0,MpC.no),Y5 _,rfl,MpC.ya,λ_ h=>(by cases h),λ_ h=>(by cases h)⟩ ?_ ?_
 focus
  refine Cov.ofR (λb=>b) (by decide) (λb B=>rfl) (λx d=>?_) (λx d=>?_) (λx _ y _ e=>e)
  ·simp only[Z3,Z4,or_false]at d;rcases d with rfl|rfl|rfl|rfl
   ·exact .ptr (by decide) rfl
   ·exact ab.frE rfl
   ·exact .int rfl
   ·exact .int rfl
  ·simp only[Z3,Z4,or_false]at d;rcases d with rfl|rfl|rfl|rfl
   ·exact⟨by decide,.inl ⟨_,rfl,an.refl rfl⟩⟩
   ·exact⟨(by decide:1<4),.inl ⟨_,rfl,an.refl (al aO cN)⟩⟩
   ·exact⟨(by decide:2<4),.inl ⟨_,rfl,.GA⟩⟩
   ·exact⟨by decide,.inl ⟨_,rfl,an.refl rfl⟩⟩
 intro⟨(i,u),p,a⟩;have p:i<=L.length:=p;have S:IntKind.i64.wrap ((i:Int)+1)=((i+1:Nat):Int):=by rw[aj (by omega) (by omega)];omega
 conv=>whnf
 refine ah.dec (λh=>?_) (λh=>?_)
 focus
  have z:i<L.length:=q0t.1 h;have G:L.length-(i+1)<L.length-i:=by omega
  have sub:=qd z rfl
  have hr:=D L[i] (q0i z);have H:(u.put L[i].dst L[i]).A=pH (L.take (i+1)):=by rw[Et,a.A,GG z]
  have go2:yP (pH (L.take (i+1))) (u.put L[i].dst L[i]):=⟨H,a.o.put _ _,λe q=>by
   rw[<-H]at q;rcases nS q with rfl|q
   ·rfl
   ·exact a.dst e (by rw[<-a.A];exact q),λe q=>by
   rw[<-H]at q;rcases nS q with rfl|q
   ·exact hr
   ·exact a.lab e (by rw[<-a.A];exact q)⟩
  conv=>whnf
  refine Idx.mk i rfl z ?_
  conv=>whnf
  refine au sub ?_
  conv=>whnf
  refine Ask.mk _ (rD (m:=u) (g:=gR) (v:=L[i]) (k:=L[i].dst) bP mkR rfl rfl rfl rfl) ?_
  conv=>whnf
  exact⟨⟨(i+1,u.put L[i].dst L[i]),z,go2⟩,G,Cov.ofN [] ⟨sP,ab.frE rfl,sI,sI (congrArg (AV.si .i64) S),trivial⟩ ⟨oF,oF (al aO cN),oF (al aO cN),oF,trivial⟩⟩
 have T:i=L.length:=by have h:¬(i:Int)<(L.length:Int):=h;omega
 have U:yP (pH L) u:=by have:=a;rw[T,q0k]at this;exact this
 conv=>whnf
 refine⟨.ptr 2 0,[.cells [.map 3] true,u.O kT gR],J,⟨u,U,rfl,?_⟩,F,rfl,λo ho=>?_,Z0 rfl,Cov.ofR (λb=>if b=2 then 3 else if b=3 then 2 else b) (Z0 rfl) (λb B=>by show(if b=2 then 3 else if b=3 then 2 else b)=b;rw[if_neg (by omega),if_neg (by omega)]) (λx d=>?_) (λx d=>?_) (λx d y K e=>?_)⟩
 ·show _=[bT _ _,bT _ _];rw[(eG (m:=0) (r':=λb=>b) (λc w=>absurd w (q1k c)) (al (m:=u) (j:=0) aO cN)).trans (vF _)];rfl
 ·simp only[Z3,Z4,or_false]at ho;rcases ho with rfl|rfl
  ·exact⟨rfl,rfl⟩
  ·exact⟨rfl,al aO cN⟩
 ·simp only[Z3,Z4,or_false]at d;subst d;exact .ptr (Z0 rfl) rfl
 ·simp only[bF,grO,GrB,q1q,q2f,Z3,Z4,or_false]at d;rcases d with rfl|rfl|rfl|rfl
  ·exact⟨Z0 rfl,.inl ⟨_,rfl,an.dQ (k:=2) rfl (Z0 rfl) (λb B=>by rw[if_neg (by omega),if_neg (by omega)])⟩⟩
  ·exact⟨Z0 rfl,.inl ⟨_,rfl,an.dQ (k:=0) (al aO cN) (Z0 rfl) (λb B=>absurd B (q1k b))⟩⟩
  ·refine⟨Z0 rfl,.inl ⟨_,rfl,.cells (Z6 _) id λi W p=>?_⟩⟩
   match i,p with
   |0,p=>injection p with p;subst p;exact⟨_,rfl,.map (Z0 rfl) rfl⟩
   |i+1,p=>simp at p
  ·exact⟨Z0 rfl,.inl ⟨_,rfl,an.dQ (k:=0) (al aO cN) (Z0 rfl) (λb B=>absurd B (q1k b))⟩⟩
 ·simp only[bF,grO,GrB,q1q,q2f,Z3,Z4,or_false]at d K;rcases d with rfl|rfl|rfl|rfl<;>rcases K with rfl|rfl|rfl|rfl<;>simp at e⊢
theorem Oz:ai 67 (yk 2 GrB GrB U0):= .os (by decide) (by decide) (xY (ax U1 5 _) (by kernel_rfl) GrB rfl (by decide) λx cs h P ⟨y,⟨a,b,d,e⟩,f⟩=>by
 subst a d e f;exact⟨rfl,λc g=>GH _ c g b⟩)
structure SE where
 p:Nat×Nat
 S:Sr
 L:Smp
 z:Int
def gE(e:SE):AV:= .agg [aA e.p,.si .i64 e.z]
def YD(e:SE):HP:=cq e.p e.S e.L
def aJ(A:List (Tx×SE)):List HP:=A.map λe=>YD e.2
structure SpC where
 m:MpC Tx SE
 x:Ix
 px:Nat×Nat
 g:Gr
 pg:Nat×Nat
def spO(c:SpC):List AO:=[.cells [.map 1,aA c.px,aA c.pg] true,c.m.O kT gE,.sep (IxB.Q c.x c.px),.sep (GrB.Q c.g c.pg),.sep (aI (aJ c.m.A))]
structure fF where
 S:Sr
 L:Smp
 z:Int
 lab:List Lab
structure SpV where
 K:Tx->Option fF
 R:Tx->Option Rl
 n:Nat
def pI(e:SE):Sr×Smp×Int:=(e.S,e.L,e.z)
def GI(e:fF):Sr×Smp×Int:=(e.S,e.L,e.z)
structure bE(X:SpV)(c:SpC):Prop where
 o:c.m.Ok
 xk:(c.x.A.map Prod.fst).Nodup
 gk:(c.g.map Prod.fst).Nodup
 n9:X.n<=1000
 ml:c.m.A.length<=X.n
 xl:c.x.A.length<=X.n
 xw:c.x.w<=8*X.n
 gl:c.g.length<=X.n
 K:∀k,(aG c.m.A k).map pI=(X.K k).map GI
 I:∀k,aG c.x.A k=(X.K k).map fF.lab
 R:∀k,aG c.g k=X.R k
 dst:∀e∈c.g,e.2.dst=e.1
 ser:∀k e,X.K k=some e->iI e.S e.L
 key:∀k e,X.K k=some e->iK k=true
 rul:∀k r,X.R k=some r->cS r=true
theorem fV{j:Nat}(e:SE):ltV j (gE e)=true:=rfl
def SpB:Obj SpV SpC where
 ok:=bE
 O:=spO
 k:=5
 len _:=rfl
 own c o h:=by
  simp only[spO,Z3,Z4,or_false]at h;rcases h with rfl|rfl|rfl|rfl|rfl
  ·exact⟨rfl,rfl⟩
  ·exact⟨rfl,al aO fV⟩
  ·exact⟨rfl,rfl⟩
  ·exact⟨rfl,rfl⟩
  ·exact⟨rfl,rfl⟩
 pos c:=⟨_,_,_,rfl⟩
theorem bQ{H:AH}{c:SpC}(a:H.get 0=some (.cells [.map 1,aA c.px,aA c.pg] true))(b:H.get 1=some (c.m.O kT gE))(d:H.get 2=some (.sep (IxB.Q c.x c.px)))(e:H.get 3=some (.sep (GrB.Q c.g c.pg)))(f:H.get 4=some (.sep (aI (aJ c.m.A)))):xW H 5 (spO c) 0:=
 ⟨⟨_,a,.refl rfl⟩,⟨_,b,.refl (al aO fV)⟩,⟨_,d,.refl rfl⟩,⟨_,e,.refl rfl⟩,⟨_,f,.refl rfl⟩,trivial⟩
theorem uq{H:AH}{c:SpC}(a:H.get 0=some (.cells [.map 1,aA c.px,aA c.pg] true))(b:H.get 1=some (c.m.O kT gE))(d:H.get 2=some (.sep (IxB.Q c.x c.px)))(e:H.get 3=some (.sep (GrB.Q c.g c.pg)))(f:H.get 4=some (.sep (aI (aJ c.m.A)))):∀i o,(spO c)[i]?=some o->H.get i=some o
 |0,o,h=>by injection h with h;subst h;exact a
 |1,o,h=>by injection h with h;subst h;exact b
 |2,o,h=>by injection h with h;subst h;exact d
 |3,o,h=>by injection h with h;subst h;exact e
 |4,o,h=>by injection h with h;subst h;exact f
 |i+5,o,h=>by simp[spO]at h
theorem nT:dM Tryz.prog 92=some (9,.string,105):=by kernel_rfl
theorem qn:cZ Tryz.prog 105=some (.agg #[.pointer none,.int .i64 0]):=by kernel_rfl
section
variable {X:SpV} {c:SpC}
theorem bE.has(h:bE X c)(k:Tx):(aG c.x.A k).isSome=(X.K k).isSome:=by rw[h.I];simp
def GJ(m:MpC Tx SE)(k:Tx)(a b:List (Tx×SE)):Prop:=∀E,m.put k E=⟨a++(k,E)::b,m.bs,m.cl⟩
theorem Rg{m:MpC Tx SE}{k:Tx}{E:SE}(h:aG m.A k=some E):∃a b,m.A=a++(k,E)::b/\GJ m k a b:=by
 unfold aG at h;rw[Z8]at h;obtain⟨⟨i,u⟩,d,rfl⟩:=h;have e:=(gH d).2;rw[q3i]at e;obtain⟨f,g⟩:=Y6.1 e;refine⟨m.A.take i,m.A.drop (i+1),?_,λE=>?_⟩
 ·rw[<-g,<-q0j f,q1i]
 ·unfold MpC.put;rw[d];show(⟨m.A.set i (k,E),m.bs,m.cl⟩:MpC Tx SE)=_;rw[List.set_eq_take_append_cons_drop,if_pos f]
theorem bE.at1(h:bE X c){k:Tx}{e:fF}(i:X.K k=some e):∃p b d,aG c.m.A k=some ⟨p,e.S,e.L,e.z⟩/\c.m.A=b++(k,⟨p,e.S,e.L,e.z⟩)::d/\GJ c.m k b d/\aJ c.m.A=aJ b++cq p e.S e.L::aJ d:=by
 have a:=h.K k;rw[i]at a;cases f:aG c.m.A k with
 |none=>rw[f]at a;cases a
 |some u=>
  rw[f]at a;obtain⟨p,S,L,z⟩:=u;injection a with a;simp only[pI,GI,q3a]at a;obtain⟨rfl,rfl,rfl⟩:=a;obtain⟨b,d,g,j⟩:=Rg f;refine⟨p,b,d,rfl,g,j,?_⟩;rw[g];unfold aJ;rw[q0m];rfl
def fX(X:SpV)(k:Tx)(e:fF):SpV:={X with K:=λx=>if x=k then some e else X.K x}
theorem bE.ym(h:bE X c){k:Tx}{e:fF}(g:X.K k=some e){p:Nat×Nat}{d f:List (Tx×SE)}(r:aG c.m.A k=some ⟨p,e.S,e.L,e.z⟩)(i:c.m.A=d++(k,⟨p,e.S,e.L,e.z⟩)::f)(j:GJ c.m k d f){S':Sr}{a:Smp}(ho:iI S' a):
 bE (fX X k {e with S:=S',L:=a}) {c with m:=c.m.put k ⟨p,S',a,e.z⟩}/\(c.m.put k ⟨p,S',a,e.z⟩).O kT gE=c.m.O kT gE/\aJ (c.m.put k ⟨p,S',a,e.z⟩).A=aJ d++cq p S' a::aJ f:=by
 have l:(c.m.put k ⟨p,S',a,e.z⟩).A=d++(k,⟨p,S',a,e.z⟩)::f:=congrArg MpC.A (j _);refine⟨⟨h.o.put k _,h.xk,h.gk,h.n9,?_,h.xl,h.xw,h.gl,λx=>?_,λx=>?_,h.R,h.dst,λx y b=>?_,λx y b=>?_,h.rul⟩,?_,?_⟩
 ·rw[l];have:=h.ml;rw[i]at this;simpa[fX]using this
 ·rw[x9 h.o];by_cases q:x=k
  ·subst q;simp[fX,pI,GI]
  ·simp[fX,q,h.K x]
 ·by_cases q:x=k
  ·subst q;simp[fX,h.I x,g]
  ·simp[fX,q,h.I x]
 ·by_cases q:x=k
  ·subst q;simp only[fX,if_true,q1z]at b;subst b;exact ho
  ·simp only[fX,if_neg q]at b;exact h.ser x y b
 ·by_cases q:x=k
  ·subst q;exact h.key x e g
  ·simp only[fX,if_neg q]at b;exact h.key x y b
 ·have n:c.m.put k ⟨p,S',a,e.z⟩=⟨d++(k,⟨p,S',a,e.z⟩)::f,c.m.bs,c.m.cl⟩:=j _;unfold MpC.O;rw[n];show AO.mp (jc kT gE (d++_::f)) _ _=_;rw[i];unfold jc;simp only[q0m,q1r];rfl
 ·rw[l];unfold aJ;rw[q0m];rfl
theorem bE.no1(h:bE X c){k:Tx}(b:X.K k=none):aG c.m.A k=none:=by
 have a:=h.K k;rw[b]at a;cases d:aG c.m.A k with
 |none=>rfl
 |some u=>rw[d]at a;cases a
end
def cz(X:SpV)(k:Tx):Int:=if(X.K k).isSome=true then(if(X.R k).isSome=true then 10 else 0)else 5
def Rh(X:SpV)(cs:List AV)(a:SpV)(v:AV):Prop:=∃k,cs=[.ss k]/\a=X/\v= .si .i64 (cz X k)
def KWr:FuncId->EP:=aq 84 (dL 4 IxB KS) (aq 120 (dL 2 GrB Xc) evP)
theorem U2:aW KWr:=ae (ae az Ov) s8
theorem KZ(X:SpV)(k:Tx)(c:SpC)(a:bE X c):ay KWr 5 61 [.ptr 0 0,.ss k] (mkH (bF (spO c) 0)) 5 (gz SpB X (.si .i64 (cz X k))):=by
 have b:=a.has k;have f:=a.R k;cases d:X.K k with
 |none=>
  rw[d]at b;have e:cz X k=5:=by unfold cz;rw[d];rfl
  rw[e]
  conv=>whnf
  refine⟨2,c.px,c.x,[.ss k],.sb false,rfl,by decide,by decide,.cons .same .nil,rfl,rfl,⟨k,rfl,congrArg AV.sb b.symm⟩,?_⟩
  conv=>whnf
  refine ah.nsb (λz=>?_) (λz=>?_)
  focus
   conv=>whnf
   exact⟨_,c,.told rfl,a,bQ rfl rfl rfl rfl rfl⟩
  cases z
 |some u=>
  rw[d]at b;cases h:X.R k with
  |none=>
   rw[h]at f;have e:cz X k=0:=by unfold cz;rw[d,h];rfl
   rw[e]
   conv=>whnf
   refine⟨2,c.px,c.x,[.ss k],.sb true,rfl,by decide,by decide,.cons .same .nil,rfl,rfl,⟨k,rfl,congrArg AV.sb b.symm⟩,?_⟩
   conv=>whnf
   refine ah.nsb (λz=>?_) (λz=>?_)
   focus
    cases z
   conv=>whnf
   refine⟨3,c.pg,c.g,[.ss k],pG none,rfl,by decide,by decide,.cons .same .nil,rfl,rfl,⟨k,rfl,by rw[f]⟩,?_⟩
   conv=>whnf
   refine ah.sb (λz=>?_) (λz=>?_)
   focus
    cases z
   conv=>whnf
   exact⟨_,c,.told rfl,a,bQ rfl rfl rfl rfl rfl⟩
  |some r=>
   rw[h]at f;have e:cz X k=10:=by unfold cz;rw[d,h];rfl
   rw[e]
   conv=>whnf
   refine⟨2,c.px,c.x,[.ss k],.sb true,rfl,by decide,by decide,.cons .same .nil,rfl,rfl,⟨k,rfl,congrArg AV.sb b.symm⟩,?_⟩
   conv=>whnf
   refine ah.nsb (λz=>?_) (λz=>?_)
   focus
    cases z
   conv=>whnf
   refine⟨3,c.pg,c.g,[.ss k],pG (some r),rfl,by decide,by decide,.cons .same .nil,rfl,rfl,⟨k,rfl,by rw[f]⟩,?_⟩
   conv=>whnf
   refine ah.sb (λz=>?_) (λz=>?_)
   focus
    conv=>whnf
    exact⟨_,c,.told rfl,a,bQ rfl rfl rfl rfl rfl⟩
   cases z
theorem BV:ai 61 (gT 5 SpB Rh):=u4 (ax U2 5 _) (by kernel_rfl) SpB rfl (by decide) λX cs f v ⟨k,a,b,d⟩=>by
 subst a b d;exact⟨rfl,rfl,λc e=>KZ _ k c e⟩
def ti (H:AH) (n b:Nat) (A C:List HP) (Q:HP):AH:=(H.set (some (.sep (aI (A++C)))) aa b).set (some (.sep Q)) aa n
section
variable {H:AH} {n b:Nat} {A C:List HP} {Q:HP}
theorem OA{x:Nat}{o:AO}(hn:n<800000)(d:b<n)(h:H.get x=some o)(a:x≠b)(c:x≠n):(ti H n b A C Q).get x=some o:=PM.gne (by omega) c (PM.gne (by omega) a h)
theorem OB(hn:n<800000)(a:b<n):(ti H n b A C Q).get b=some (.sep (aI (A++C))):=PM.gne (by omega) (by omega) (PM.geq (by omega))
theorem rE(hn:n<800000):(ti H n b A C Q).get n=some (.sep Q):=PM.geq (by omega)
theorem mg{x:Nat}(d:n<x)(f:b<n)(h:H.get x=none):(ti H n b A C Q).get x=none:=by
 cases e:(ti H n b A C Q).get x with
 |none=>rfl
 |some o=>
  rcases PM.ak aa _ n x o e with⟨c,_⟩|⟨_,a⟩
  ·omega
  rcases PM.ak aa _ b x o a with⟨c,_⟩|⟨_,a⟩
  ·omega
  rw[h]at a;cases a
theorem eO{k:Nat}:∀{m:Nat},ic H m n=true->k<m->H.get (n+k)=none:=λ{m} h a=>by
 cases e:H.get (n+k)with
 |none=>rfl
 |some o=>exact(lB h (q0u n k) (by omega) e).elim
theorem kW(h:ic H 5 n=true)(hn:n<700000)(a:b<n):mc (ti H n b A C Q) (n+1):=
 ⟨by omega,mg (by omega) a (eO (k:=1) h (by decide)),mg (by omega) a (eO (k:=2) h (by decide)),mg (by omega) a (eO (k:=3) h (by decide)),mg (by omega) a (eO (k:=4) h (by decide))⟩
end
def Xe(run:List AV->AH->Nat->PK->Prop)(args:List AV)(H:AH)(n:Nat)(κ:PK):Prop:=∃(b:Nat) (A C:List HP) (Q:HP) (a:AV->HP->Nat->Prop),b<n/\n<700000/\H.get n=none/\H.get b=some (.sep (aI (A++Q::C)))/\run args (ti H n b A C Q) (n+1) (λv e d=>∃c,e=(ti H n b A C Q).set (some (.sep c)) aa n/\a v c d)/\∀v c d,a v c d->κ v (H.set (some (.sep (aI (A++c::C)))) aa b) d
theorem ai.s1{f:FuncId}{run:List AV->AH->Nat->PK->Prop}(h:ai f run):ai f (Xe run):=λargs H n R ⟨b,A,C,Q,l,m,S,t,y,z,B⟩ D E F G K I c J=>by
 refine h.w.st args H n (λu v i=>∃a j,l u a i/\j=(ti H n b A C Q).set (some (.sep a)) aa n/\v=(j.set none aa n).set (some (.sep (aI (A++a::C)))) aa b) ⟨b,A,C,Q,m,by omega,t,y,_,z,λu j i ⟨a,p,q⟩=>?_⟩ D E F G K I c λL u v i w g r M N ⟨a,j,p,q,O⟩=>?_
 ·subst p;exact⟨a,PM.gne (by omega) (by omega) (OB (by omega) m),PM.geq (by omega),a,_,q,rfl,rfl⟩
 ·subst q O;refine J L u _ _ w g r (M.less λx o P=>?_) N (B u a i p);rcases PM.ak aa _ b x o P with⟨k,d⟩|⟨k,d⟩
  ·subst k;injection d with d;subst d;exact PM.geq (by omega)
  ·have s:x≠n:=λe=>by subst e;rw[t]at d;cases d
   exact PM.gne (by omega) k (PM.gne (by omega) s (PM.gne (by omega) s (OA (by omega) m d k s)))
def Xf(run:List AV->AH->Nat->PK->Prop)(args:List AV)(H:AH)(n:Nat)(κ:PK):Prop:=∃(b:Nat) (A C:List HP) (Q:HP) (a:AV->AO->Nat->Nat->Prop),b<n/\n<700000/\H.get n=none/\H.get b=some (.sep (aI (A++Q::C)))/\run args (ti H n b A C Q) (n+1) (λv d c=>∃o m,n<m/\m<900000/\d=(ti H n b A C Q).set (some o) aa m/\a v o m c)/\∀v o m c,a v o m c->κ v (H.set (some o) aa m) c
theorem ai.s2{f:FuncId}{run:List AV->AH->Nat->PK->Prop}(d:ai f run):ai f (Xf run):=λargs H n U ⟨b,A,C,Q,j,k,V,t,v,D,E⟩ F G I J K L c M=>by
 refine d.w.st args H n (λu y h=>∃o m i,n<m/\m<900000/\j u o m h/\i=(ti H n b A C Q).set (some o) aa m/\y=(i.set none aa n).set (some (.sep (aI (A++Q::C)))) aa b) ⟨b,A,C,Q,k,by omega,t,v,_,D,λu i h ⟨o,m,e0,z,l,p⟩=>?_⟩ F G I J K L c λN u y h w g r O P ⟨o,m,i,e0,z,l,p,R⟩=>?_
 ·subst l;exact⟨Q,PM.gne (by omega) (by omega) (OB (by omega) k),PM.gne (by omega) (by omega) (rE (by omega)),o,m,_,e0,z,p,rfl,rfl⟩
 ·subst p R;refine M N u _ _ w g r (O.less λx S T=>?_) P (E u o m h l);rcases PM.ak aa _ m x S T with⟨s,a⟩|⟨s,a⟩
  ·subst s;injection a with a;subst a;exact PM.gne (by omega) (by omega) (PM.gne (by omega) (by omega) (PM.geq (by omega)))
  ·have B:x≠n:=λe=>by subst e;rw[t]at a;cases a
   by_cases q:x=b
   ·subst q;rw[v]at a;injection a with a;subst a;exact PM.geq (by omega)
   ·exact PM.gne (by omega) q (PM.gne (by omega) B (PM.gne (by omega) s (OA (by omega) k a q B)))
def mZ(B:Sr->Smp->List AV->AV->Prop)(args:List AV)(H:AH)(n:Nat)(κ:PK):Prop:=match args with
 |x::a=>∃(b:Nat) (A C:List HP) (p:Nat×Nat) (S:Sr) (L:Smp) (v:AV),x=aA p/\b<n/\n<700000/\ic H 5 n=true/\H.get b=some (.sep (aI (A++cq p S L::C)))/\B S L a v/\κ v H (n+4)
 |_=>False
theorem BW(B:Sr->Smp->List AV->AV->Prop):iG (mZ B):=λargs H n l a=>by
 unfold mZ at*;split at a
 ·obtain⟨b,A,C,p,S,L,v,c,d,e,f,g,i,j⟩:=a;exact⟨v,H,n+4,j,λ_ _ h=>h,q0u _ _,λk h=>⟨b,A,C,p,S,L,v,c,d,e,f,g,i,h⟩⟩
 ·exact a.elim
theorem ai.ql{f:FuncId}{B:Sr->Smp->List AV->AV->Prop}(h:ai f (pt B)):ai f (mZ B):=λargs H n e a=>by
 unfold mZ at a;split at a
 ·obtain⟨b,A,C,p,S,L,v,g,c,i,d,j,l,m⟩:=a;exact h.sl _ H n e ⟨b,A,C,cq p S L,v,n+4,c,by omega,eO (k:=0) d (by decide),j,by omega,⟨n,p,S,L,v,g,by omega,rE (H:=H) (b:=b) (A:=A) (C:=C) (by omega),kW d i c,l,rfl,rfl,rfl⟩,m⟩
 ·exact a.elim
def yn(B:Smp->List AV->Smp->Prop)(args:List AV)(H:AH)(n:Nat)(κ:PK):Prop:=match args with
 |x::a=>∃(b:Nat) (A C:List HP) (p:Nat×Nat) (S:Sr) (L O:Smp),x=aA p/\b<n/\n<700000/\ic H 5 n=true/\H.get b=some (.sep (aI (A++cq p S L::C)))/\B L a O/\κ (.rw (n+4) 0 O.length 2 0) (H.set (some (.cells (smp O) true)) aa (n+4)) (n+5)
 |_=>False
theorem U3(B:Smp->List AV->Smp->Prop):iG (yn B):=λargs H n r a=>by
 unfold yn at*;split at a
 ·obtain⟨b,A,C,p,S,L,O,f,g,i,d,j,l,m⟩:=a;exact⟨_,_,_,m,λx o c=>PM.gne (by omega) (λe=>by subst e;rw[eO (k:=4) d (by decide)]at c;cases c) c,q0u _ _,λq h=>⟨b,A,C,p,S,L,O,f,g,i,d,j,l,h⟩⟩
 ·exact a.elim
theorem ai.qm{f:FuncId}{B:Smp->List AV->Smp->Prop}(h:ai f (Ed B)):ai f (yn B):=λargs H n i a=>by
 unfold yn at a;split at a
 ·obtain⟨b,A,C,p,S,L,O,j,c,d,e,l,q,r⟩:=a;refine h.s2 _ H n i ⟨b,A,C,cq p S L,λv o m g=>v= .rw (n+4) 0 O.length 2 0/\o= .cells (smp O) true/\m=n+4/\g=n+5,c,d,eO (k:=0) e (by decide),l,⟨n,p,S,L,O,j,by omega,rE (by omega),kW e d c,q,?_⟩,λv o m g ⟨s,t,u,w⟩=>by subst s t u w;exact r⟩;exact⟨_,n+4,by omega,by omega,rfl,rfl,rfl,rfl,rfl⟩
 ·exact a.elim
def IL(args:List AV)(H:AH)(n:Nat)(κ:PK):Prop:=match args with
 | [x,y,z]=>∃(b:Nat) (A C:List HP) (p:Nat×Nat) (S:Sr) (L:Smp) (t v q:Int) (a:Sr) (c:Smp) (e:Int),x=aA p/\b<n/\n<700000/\ic H 5 n=true/\H.get b=some (.sep (aI (A++cq p S L::C)))/\nJ y t v/\mk z= .si .i64 q/\aP v/\L.length<=40000/\fg S L t v q=((a,c),e)/\(iI a c->κ (.si .i64 e) (H.set (some (.sep (aI (A++cq p a c::C)))) aa b) (n+5))
 |_=>False
theorem OC:ai 72 IL:=λargs H n m a=>by
 unfold IL at a;split at a
 ·obtain⟨b,A,C,p,S,L,t,v,q,c,d,e,r,h,i,j,s,w,x,y,z,f,g⟩:=a;refine Us.s1 _ H n m ⟨b,A,C,cq p S L,λu B l=>iI c d/\u= .si .i64 e/\B=cq p c d/\l=n+5,h,i,eO (k:=0) j (by decide),s,⟨n,p,S,L,t,v,q,c,d,e,r,by omega,rE (by omega),kW j i h,w,x,y,z,f,λho=>⟨_,rfl,ho,rfl,rfl,rfl⟩⟩,λv o l ⟨e0,D,E,F⟩=>by subst D E F;exact g e0⟩
 ·exact a.elim
def Ad(args:List AV)(H:AH)(n:Nat)(κ:PK):Prop:=match args with
 | [x,y,z]=>∃(b:Nat) (A C:List HP) (p:Nat×Nat) (S:Sr) (L:Smp) (a c:Int) (d:Smp) (m:Nat),x=aA p/\b<n/\n<700000/\ic H 5 n=true/\H.get b=some (.sep (aI (A++cq p S L::C)))/\mk y= .si .i64 a/\mk z= .si .i64 c/\L.length<=40000/\aR L a c=d/\L.length-d.length=m/\(iI S d->κ (.si .i64 (m:Int)) (H.set (some (.sep (aI (A++cq p S d::C)))) aa b) (n+5))
 |_=>False
theorem BX:ai 100 Ad:=λargs H n r d=>by
 unfold Ad at d;split at d
 ·obtain⟨b,A,C,p,S,L,a,c,e,m,s,i,j,l,t,w,x,y,f,g,h⟩:=d;refine Ut.s1 _ H n r ⟨b,A,C,cq p S L,λu z q=>iI S e/\u= .si .i64 (m:Int)/\z=cq p S e/\q=n+5,i,j,eO (k:=0) l (by decide),t,⟨n,p,S,L,a,c,e,m,s,by omega,rE (by omega),kW l j i,w,x,y,f,g,λho=>⟨_,rfl,ho,rfl,rfl,rfl⟩⟩,λv o q ⟨e0,B,D,E⟩=>by subst B D E;exact h e0⟩
 ·exact d.elim
def OD(args:List AV)(H:AH)(n:Nat)(κ:PK):Prop:=match args with
 | [x,y,z]=>∃(b:Nat) (A C:List HP) (p:Nat×Nat) (S:Sr) (L:Smp) (r q:Int) (a:Sr) (c:Smp) (e:Int),x=aA p/\b<n/\n<700000/\ic H 5 n=true/\H.get b=some (.sep (aI (A++cq p S L::C)))/\mk y= .si .i64 r/\mk z= .si .i64 q/\L.length<=40000/\jU S L r q=((a,c),e)/\(iI a c->κ (.si .i64 e) (H.set (some (.sep (aI (A++cq p a c::C)))) aa b) (n+5))
 |_=>False
theorem U4:ai 108 OD:=λargs H n m a=>by
 unfold OD at a;split at a
 ·obtain⟨b,A,C,p,S,L,r,q,c,d,e,s,h,i,j,t,w,x,y,f,g⟩:=a;refine Uu.s1 _ H n m ⟨b,A,C,cq p S L,λu z l=>iI c d/\u= .si .i64 e/\z=cq p c d/\l=n+5,h,i,eO (k:=0) j (by decide),t,⟨n,p,S,L,r,q,c,d,e,s,by omega,rE (by omega),kW j i h,w,x,y,f,λho=>⟨_,rfl,ho,rfl,rfl,rfl⟩⟩,λv o l ⟨e0,B,D,E⟩=>by subst B D E;exact g e0⟩
 ·exact a.elim
def IM(args:List AV)(H:AH)(n:Nat)(κ:PK):Prop:=match args with
 | [x]=>∃(b:Nat) (A C:List HP) (p:Nat×Nat) (S:Sr) (L:Smp),x=aA p/\b<n/\n<700000/\ic H 9 n=true/\H.get b=some (.sep (aI (A++cq p S L::C)))/\∀a,κ (aA a) (H.set (some (.sep (cq a S L))) aa (n+1)) (n+8)
 |_=>False
theorem Ew:ai 58 IM:=λargs H n h e=>by
 unfold IM at e;split at e
 ·obtain⟨b,A,C,p,S,L,i,a,f,c,j,l⟩:=e;refine QX.s2 _ H n h ⟨b,A,C,cq p S L,λv o m g=>∃d,v=aA d/\o= .sep (cq d S L)/\m=n+1/\g=n+8,a,f,eO (k:=0) c (by decide),j,⟨n,p,S,L,i,by omega,rE (by omega),kW (yl (by decide) c) f a,⟨by omega,mg (by omega) a (eO (k:=5) c (by decide)),mg (by omega) a (eO (k:=6) c (by decide)),mg (by omega) a (eO (k:=7) c (by decide)),mg (by omega) a (eO (k:=8) c (by decide))⟩,λd=>⟨_,n+1,by omega,by omega,rfl,d,rfl,rfl,rfl,rfl⟩⟩,λv o m g ⟨d,q,r,s,t⟩=>by subst q r s t;exact l d⟩
 ·exact e.elim
theorem SK:ai 24 (mZ QT):=WG.ql
theorem Xg:ai 85 (mZ Un):=WH.ql
theorem Xh:ai 86 (mZ Uo):=WI.ql
theorem Xi:ai 18 (mZ Uq):=WK.ql
theorem SL:ai 21 (yn Ee):=SC.qm
theorem qg(x:Int):aP (IntKind.i64.wrap x):=by
 rw[IntKind.wrap_i64];unfold aP;omega
theorem OE(a b:Int):aP (FI a b):=by
 unfold FI ke;have:=qg (a+b);split
 ·split<;>exact⟨by decide,by decide⟩
 ·exact this
theorem Ri{L:Smp}(h:∀x∈L,aP x.2):aP (om L).n/\aP (om L).sum/\aP (om L).least/\aP (om L).great/\aP (om L).first/\aP (om L).last:=by
 have main:∀(L:Smp) (s:SS),(∀x∈L,aP x.2)->(aP s.n/\aP s.sum/\aP s.least/\aP s.great/\aP s.first/\aP s.last)->(aP (L.foldl (λs x=>yL s x.2) s).n/\aP (L.foldl (λs x=>yL s x.2) s).sum/\aP (L.foldl (λs x=>yL s x.2) s).least/\aP (L.foldl (λs x=>yL s x.2) s).great/\aP (L.foldl (λs x=>yL s x.2) s).first/\aP (L.foldl (λs x=>yL s x.2) s).last):=λL=>by
  induction L with
  |nil=>exact λs _ h=>h
  |cons x L b=>
   intro s a ⟨e,f,g,i,j,k⟩;have l:=a x q0b;refine b (yL s x.2) (λy c=>a y (Y4 _ c)) ?_;have w:=qg (s.n+1);have d:=OE s.sum x.2;unfold aP at*;unfold yL;split<;>exact⟨w,d,by dsimp only;omega,by dsimp only;omega,by dsimp only;omega,by dsimp only;omega⟩
 have z:aP 0:=⟨by decide,by decide⟩;exact main L ss0 h ⟨z,z,z,z,z,z⟩
theorem K0{k:Int}{L:Smp}(h:∀x∈L,aP x.2):aP (A3 k L):=by
 obtain⟨a,b,c,d,e,f⟩:=Ri h;have z:aP 0:=⟨by decide,by decide⟩;have w:=qg ((om L).great-(om L).least);unfold A3 PH Hk
 repeat' split
 all_goals first|exact z|assumption|exact⟨by decide,by decide⟩
def bB(r:Rl)(t:Int):Int:=gv t r.size r.align
def eB(r:Rl)(t:Int):Int:=wY (bB r t) r.size r.align
theorem Ex{t s a:Int}:0<=wY t s a/\wY t s a<=2199023255552:=by
 have:=jE (t:=t) (s:=s) (a:=a);unfold wY;split
 ·rename_i h;simp only[tW,decide_eq_true_eq]at h;split<;>omega
 ·omega
def inB(r:Rl)(t:Int)(L:Smp):Smp:=bJ (bB r t) (eB r t-1) L
def Ey(r:Rl)(t:Int)(S:Sr):Prop:=S.mx<0∨bB r S.mx<eB r t
instance (r:Rl)(t:Int)(S:Sr):Decidable (Ey r t S):=by unfold Ey;infer_instance
def gU(r:Rl)(t:Int)(s d:fF):Sr×Smp:=if Ey r t s.S then(d.S,d.L)else if PN r.kind (inB r t s.L)=true then(fg d.S d.L (bB r t) (A3 r.kind (inB r t s.L)) 3).1 else(d.S,aR d.L (bB r t) (bB r t))
def cm(X:SpV)(r:Rl)(t:Int):SpV:=match X.K r.src,X.K r.dst with
 |some s,some d=>fX X r.dst {d with S:=(gU r t s d).1,L:=(gU r t s d).2}
 |_,_=>X
theorem BY{X:SpV}{k:Tx}{e:fF}(h:X.K k=some e):fX X k e=X:=by
 unfold fX
 have:(λx=>if x=k then some e else X.K x)=X.K:=funext λx=>by
  by_cases q:x=k
  ·subst q;rw[if_pos rfl,h]
  ·rw[if_neg q]
 rw[this]
def U5:DT:=[(1000002,[]),(1,[(some 1000000,[14,15,14,10,14,12,14,13,15,10,15,12,15,13,16,10,16,12,16,13]),(none,[0,1,2,3,4,5,6,7,8,9,11,10,12,13,14,15,16,17]),(none,[0,1,2,3,4,5,6,7,8,9,11,10,12,13,15,14,16,17]),(none,[0,1,2,3,4,5,6,7,8,9,11,10,12,14,13,15,16,17]),(none,[0,1,2,3,4,5,6,7,8,9,11,10,12,14,15,13,16,17]),(none,[0,1,2,3,4,5,6,7,8,9,11,10,12,14,15,16,13,17]),(none,[0,1,2,3,4,5,6,7,8,9,11,10,12,15,13,14,16,17]),(none,[0,1,2,3,4,5,6,7,8,9,11,10,12,15,14,13,16,17]),(none,[0,1,2,3,4,5,6,7,8,9,11,10,12,15,14,16,13,17]),(none,[0,1,2,3,4,5,6,7,8,9,11,10,14,12,13,15,16,17]),(none,[0,1,2,3,4,5,6,7,8,9,11,10,14,12,15,13,16,17]),(none,[0,1,2,3,4,5,6,7,8,9,11,10,14,12,15,16,13,17]),(none,[0,1,2,3,4,5,6,7,8,9,11,10,14,15,12,13,16,17]),(none,[0,1,2,3,4,5,6,7,8,9,11,10,14,15,12,16,13,17]),(none,[0,1,2,3,4,5,6,7,8,9,11,10,14,15,16,12,13,17]),(none,[0,1,2,3,4,5,6,7,8,9,11,10,15,12,13,14,16,17]),(none,[0,1,2,3,4,5,6,7,8,9,11,10,15,12,14,13,16,17]),(none,[0,1,2,3,4,5,6,7,8,9,11,10,15,12,14,16,13,17]),(none,[0,1,2,3,4,5,6,7,8,9,11,10,15,14,12,13,16,17]),(none,[0,1,2,3,4,5,6,7,8,9,11,10,15,14,12,16,13,17]),(none,[0,1,2,3,4,5,6,7,8,9,11,10,15,14,16,12,13,17]),(none,[0,1,2,3,4,5,6,7,8,9,11,12,14,10,13,15,16,17]),(none,[0,1,2,3,4,5,6,7,8,9,11,12,14,10,15,13,16,17]),(none,[0,1,2,3,4,5,6,7,8,9,11,12,14,10,15,16,13,17]),(none,[0,1,2,3,4,5,6,7,8,9,11,12,14,15,10,13,16,17]),(none,[0,1,2,3,4,5,6,7,8,9,11,12,14,15,10,16,13,17]),(none,[0,1,2,3,4,5,6,7,8,9,11,12,14,15,16,10,13,17]),(none,[0,1,2,3,4,5,6,7,8,9,11,12,15,10,13,14,16,17]),(none,[0,1,2,3,4,5,6,7,8,9,11,12,15,10,14,13,16,17]),(none,[0,1,2,3,4,5,6,7,8,9,11,12,15,10,14,16,13,17]),(none,[0,1,2,3,4,5,6,7,8,9,11,12,15,14,10,13,16,17]),(none,[0,1,2,3,4,5,6,7,8,9,11,12,15,14,10,16,13,17]),(none,[0,1,2,3,4,5,6,7,8,9,11,12,15,14,16,10,13,17]),(none,[0,1,2,3,4,5,6,7,8,9,11,14,10,12,13,15,16,17]),(none,[0,1,2,3,4,5,6,7,8,9,11,14,10,12,15,13,16,17]),(none,[0,1,2,3,4,5,6,7,8,9,11,14,10,12,15,16,13,17]),(none,[0,1,2,3,4,5,6,7,8,9,11,14,10,15,12,13,16,17]),(none,[0,1,2,3,4,5,6,7,8,9,11,14,10,15,12,16,13,17]),(none,[0,1,2,3,4,5,6,7,8,9,11,14,10,15,16,12,13,17]),(none,[0,1,2,3,4,5,6,7,8,9,11,14,12,15,10,13,16,17]),(none,[0,1,2,3,4,5,6,7,8,9,11,14,12,15,10,16,13,17]),(none,[0,1,2,3,4,5,6,7,8,9,11,14,12,15,16,10,13,17]),(none,[0,1,2,3,4,5,6,7,8,9,11,14,15,10,12,13,16,17]),(none,[0,1,2,3,4,5,6,7,8,9,11,14,15,10,12,16,13,17]),(none,[0,1,2,3,4,5,6,7,8,9,11,14,15,10,16,12,13,17]),(none,[0,1,2,3,4,5,6,7,8,9,11,14,15,12,16,10,13,17]),(none,[0,1,2,3,4,5,6,7,8,9,11,14,15,16,10,12,13,17]),(none,[0,1,2,3,4,5,6,7,8,9,11,15,10,12,13,14,16,17]),(none,[0,1,2,3,4,5,6,7,8,9,11,15,10,12,14,13,16,17]),(none,[0,1,2,3,4,5,6,7,8,9,11,15,10,12,14,16,13,17]),(none,[0,1,2,3,4,5,6,7,8,9,11,15,10,14,12,13,16,17]),(none,[0,1,2,3,4,5,6,7,8,9,11,15,10,14,12,16,13,17]),(none,[0,1,2,3,4,5,6,7,8,9,11,15,10,14,16,12,13,17]),(none,[0,1,2,3,4,5,6,7,8,9,11,15,12,14,10,13,16,17]),(none,[0,1,2,3,4,5,6,7,8,9,11,15,12,14,10,16,13,17]),(none,[0,1,2,3,4,5,6,7,8,9,11,15,12,14,16,10,13,17]),(none,[0,1,2,3,4,5,6,7,8,9,11,15,14,10,12,13,16,17]),(none,[0,1,2,3,4,5,6,7,8,9,11,15,14,10,12,16,13,17]),(none,[0,1,2,3,4,5,6,7,8,9,11,15,14,10,16,12,13,17]),(none,[0,1,2,3,4,5,6,7,8,9,11,15,14,12,16,10,13,17]),(none,[0,1,2,3,4,5,6,7,8,9,11,15,14,16,10,12,13,17])]),
 (4,[(some 0,[6]),(some 0,[38]),(none,[39]),(some 0,[40]),(some 0,[41]),(some 0,[9,42]),(some 0,[6,42]),(some 0,[44,42]),(none,[45,42]),(some 1,[4,42]),(some 2,[47,42]),(some 3,[4,42]),(some 4,[49,42]),(none,[46,48,50,42]),(some 0,[43,51,42])]),
 (5,[(some 0,[4]),(some 0,[55]),(some 0,[6]),(some 0,[57]),(some 0,[8]),(some 0,[9]),(some 0,[60]),(none,[58,59,61]),(none,[56,62]),(some 0,[63]),(some 0,[54]),(some 0,[54]),(some 0,[64])])]
def KBk:FuncId->EP:=bg 75 U5 (cV 24 (mZ QT) (cV 21 (yn Ee) (cV 54 (wU gv) (cV 55 (wU wY) (cV 56 (zt 9223372036854775807 uS) (aq 72 IL (aq 100 Ad evP)))))))
theorem U6:aW KBk:=aw (ba (ba (ba (ba (ba (ae (ae az BX) OC) Te Tb) Si Dd) A0 Dd) SL (U3 _)) SK (BW _)) (by kernel_rfl) (by kernel_rfl)
def bkJ (c:SpC) (r:Rl) (t:Int) (a:Nat×Nat) (b:Int) (d:Nat×Nat) (z2:Int):AE×AH:=(mkE [(0,.ptr 0 (0)),(2,.si .i64 (t)),(4,.ptr 5 (0)),(6,.ptr 6 (0)),(7,.ptr 7 (0))],mkH [(0,.cells [.map 1,aA c.px,aA c.pg] true),(1,c.m.O kT gE),(2,.sep (IxB.Q c.x c.px)),(3,.sep (GrB.Q c.g c.pg)),(4,.sep (aI (aJ c.m.A))),(5,.cells (ruC r) true),(6,.cells ([aA a,.si .i64 b]) true),(7,.cells ([aA d,.si .i64 z2]) true)])
theorem OF(X:SpV)(r:Rl)(t:Int)(c:SpC)(f:bE X c){s d:fF}(h:X.K r.src=some s)(hd:X.K r.dst=some d)(ls:s.L.length<=30000)(R:d.L.length<=30000):ay KBk 6 75 [.ptr 0 0,gR r,.si .i64 t] (mkH (bF (spO c) 0)) 5 (gz SpB (cm X r t) (.tup [])):=by
 obtain⟨n,o,p,N,T,U,u⟩:=f.at1 h;obtain⟨i,F,G,v,H,I,J⟩:=f.at1 hd
 conv=>whnf
 refine qz.mk Unit 8 (λ_=>bkJ c r t n s.z i d.z) ?_ ?_
 focus
  conv=>whnf
  refine⟨?_,?_,?_,?_,?_,?_,?_,?_,?_,?_,?_,?_,?_,?_,?_,?_,?_,?_,?_,?_,?_,?_,?_,?_,?_,?_,?_,?_,?_,?_,?_,?_,?_,?_,?_,?_,?_,?_,?_,?_,?_,?_,?_,?_,?_,?_,?_,?_,?_,?_,?_,?_,?_,?_,?_,?_,?_,?_,?_,?_,trivial⟩
  all_goals
   conv=>whnf
   refine Ask.mk _ (bd (m:=c.m) (g:=gE) (k:=r.src) bP nT rfl rfl rfl qn N) ?_
   conv=>whnf
   refine Ask.mk _ (bd (m:=c.m) (g:=gE) (k:=r.dst) bP nT rfl rfl rfl qn v) ?_
   conv=>whnf
   first
    |exact⟨(),Cov.ofN [(6,6),(7,7)] ⟨sP,sI,sP,sP,sP,trivial⟩ ⟨oK 2,oK 0 (al aO fV),oS,oS,oS,oK 0,.inl ⟨_,rfl,an.st (.cons (.aA rfl) (.cons (.int rfl) .nil))⟩,.inl ⟨_,rfl,an.st (.cons (.aA rfl) (.cons (.int rfl) .nil))⟩,trivial⟩⟩
    |exact⟨(),Cov.ofN [(6,7),(7,6)] ⟨sP,sI,sP,sP,sP,trivial⟩ ⟨oK 2,oK 0 (al aO fV),oS,oS,oS,oK 0,.inl ⟨_,rfl,an.st (.cons (.aA rfl) (.cons (.int rfl) .nil))⟩,.inl ⟨_,rfl,an.st (.cons (.aA rfl) (.cons (.int rfl) .nil))⟩,trivial⟩⟩
 intro _;have V:=jE (t:=t) (s:=r.size) (a:=r.align);have W:=Ex (t:=bB r t) (s:=r.size) (a:=r.align);have O:IntKind.i64.wrap (eB r t-1)=eB r t-1:=aj (by unfold eB;omega) (by unfold eB;omega)
 have e0:Ey r t s.S->cm X r t=X:=λq=>by
  unfold cm;rw[h,hd];show fX X r.dst {d with S:=(gU r t s d).1,L:=(gU r t s d).2}=X;unfold gU;rw[if_pos q];exact BY hd
 conv=>whnf
 refine⟨4,aJ o,aJ p,n,s.S,s.L,_,rfl,by decide,by decide,rfl,congrArg (λx=>some (AO.sep (aI x))) u,⟨rfl,rfl⟩,?_⟩
 conv=>whnf
 refine ah.dec (λw=>?_) (λw=>?_)
 focus
  have e:=e0 (.inl w);rw[e]
  conv=>whnf
  exact⟨_,c,.told rfl,f,bQ rfl rfl rfl rfl rfl⟩
 conv=>whnf
 refine⟨4,aJ o,aJ p,n,s.S,s.L,_,rfl,by decide,by decide,rfl,congrArg (λx=>some (AO.sep (aI x))) u,⟨rfl,rfl⟩,?_⟩
 conv=>whnf
 refine ah.dec (λz2=>?_) (λz2=>?_)
 focus
  have e:=e0 (.inr z2);rw[e]
  conv=>whnf
  exact⟨_,c,.told rfl,f,bQ rfl rfl rfl rfl rfl⟩
 have j:¬Ey r t s.S:=λq=>q.elim w z2
 conv=>whnf
 refine⟨4,aJ o,aJ p,n,s.S,s.L,inB r t s.L,rfl,by decide,by decide,rfl,congrArg (λx=>some (AO.sep (aI x))) u,⟨_,_,bB r t,eB r t-1,rfl,rfl,congrArg (AV.si .i64) O,rfl⟩,?_⟩
 conv=>whnf
 refine⟨inB r t s.L,mK.Yn rfl rfl,Y7 (q1e _ _) (by omega),?_⟩
 conv=>whnf
 refine ah.nsb (λy=>?_) (λy=>?_)
 focus
  obtain⟨b,l⟩:∃b,b=aR d.L (bB r t) (bB r t):=⟨_,rfl⟩
  conv=>whnf
  refine⟨4,aJ F,aJ G,i,d.S,d.L,bB r t,bB r t,b,_,rfl,by decide,by decide,rfl,congrArg (λx=>some (AO.sep (aI x))) J,rfl,rfl,by omega,l.symm,rfl,λho=>?_⟩;obtain⟨A,B,C⟩:=f.ym hd v H I ho
  have e:cm X r t=fX X r.dst {d with S:=d.S,L:=b}:=by
   unfold cm;rw[h,hd];show fX X r.dst {d with S:=(gU r t s d).1,L:=(gU r t s d).2}=_;unfold gU;rw[if_neg j,if_neg (by rw[y];simp),l]
  rw[e]
  conv=>whnf
  exact⟨_,{c with m:=c.m.put r.dst ⟨i,d.S,b,d.z⟩},.told rfl,A,bQ rfl (congrArg some B.symm) rfl rfl (congrArg (λx=>some (AO.sep (aI x))) C.symm)⟩
 obtain⟨Y,M⟩:∃Y,Y=fg d.S d.L (bB r t) (A3 r.kind (inB r t s.L)) 3:=⟨_,rfl⟩;obtain⟨⟨D,b⟩,e⟩:=Y;have E:aP (A3 r.kind (inB r t s.L)):=K0 λx P=>((f.ser _ _ h).dR x (q1b.1 P).1).2
 conv=>whnf
 refine⟨4,aJ F,aJ G,i,d.S,d.L,bB r t,A3 r.kind (inB r t s.L),3,D,b,e,rfl,by decide,by decide,rfl,congrArg (λx=>some (AO.sep (aI x))) J,⟨_,_,rfl,rfl,rfl⟩,rfl,E,by omega,M.symm,λho=>?_⟩;obtain⟨A,B,C⟩:=f.ym hd v H I ho
 have Q:cm X r t=fX X r.dst {d with S:=D,L:=b}:=by
  unfold cm;rw[h,hd];show fX X r.dst {d with S:=(gU r t s d).1,L:=(gU r t s d).2}=_;unfold gU;rw[if_neg j,if_pos y,<-M]
 rw[Q]
 conv=>whnf
 exact⟨_,{c with m:=c.m.put r.dst ⟨i,D,b,d.z⟩},.told rfl,A,bQ rfl (congrArg some B.symm) rfl rfl (congrArg (λx=>some (AO.sep (aI x))) C.symm)⟩
def U7(X:SpV)(cs:List AV)(a:SpV)(v:AV):Prop:=∃r t s d,cs=[gR r,.si .i64 t]/\X.K r.src=some s/\X.K r.dst=some d/\s.L.length<=30000/\d.L.length<=30000/\a=cm X r t/\v= .tup []
theorem OG:ai 75 (gT 5 SpB U7):=u4 (ax U6 6 _) (by kernel_rfl) SpB rfl (by decide) λX cs k v ⟨r,t,s,d,a,b,e,f,g,h,i⟩=>by
 subst a h i;exact⟨rfl,rfl,λc j=>OF X r t c j b e f g⟩
end Go.Proofs.YtflehenfikoniaaGreat
namespace Go.Proofs.YtflehenfikoniaaGreat
open Go Go.RowKit
section
variable {V:Type}
theorem pJ{A:List (Tx×V)}(h:(A.map Prod.fst).Nodup){k:Tx}{v:V}:(k,v)∈A<->aG A k=some v:=⟨cT h,bM⟩
open Classical in
def vh (f:Tx->Option V):List (Tx×V):=if h:∃A:List (Tx×V),(A.map Prod.fst).Nodup/\∀k,aG A k=f k then h.choose else []
theorem m5{f:Tx->Option V}{A:List (Tx×V)}(a:(A.map Prod.fst).Nodup)(b:∀k,aG A k=f k):((vh f).map Prod.fst).Nodup/\∀k,aG (vh f) k=f k:=by
 have h:∃A:List (Tx×V),(A.map Prod.fst).Nodup/\∀k,aG A k=f k:=⟨A,a,b⟩;unfold vh;rw[dif_pos h];exact h.choose_spec
end
theorem yo{A B:List Tx}(h:∀x,x∈A<->x∈B):aK A=aK B:=rA (bb A).1 (bb B).1 λx=>by rw[(bb A).2,(bb B).2];exact h x
theorem BZ{A B:Gr}(b:(A.map Prod.fst).Nodup)(c:(B.map Prod.fst).Nodup)(h:∀k,aG A k=aG B k)(so:Rl->Bool):pkF A so=pkF B so:=by
 have a:∀e:Tx×Rl,e∈A<->e∈B:=λe=>by
  obtain⟨k,v⟩:=e;rw[pJ b,pJ c,h]
 have f:aK ((A.filter λe=>so e.2).map Prod.fst)=aK ((B.filter λe=>so e.2).map Prod.fst):=yo λx=>by
  simp only[q0e,q1b,a]
 have g:aK ((A.filter λe=>so e.2).map λe=>e.2.src)=aK ((B.filter λe=>so e.2).map λe=>e.2.src):=yo λx=>by
  simp only[q0e,q1b,a]
 have i:∀d,rul A d=rul B d:=λd=>by unfold rul;rw[h]
 unfold pkF;rw[f,g];congr 1;funext s;unfold pkS;have:rul A=rul B:=funext i;rw[this]
theorem Ez{a:Type}(p:a->Bool):∀N:List a,(N.filter p).length+(N.filter λd=>!p d).length=N.length
 | []=>rfl
 |d::N=>by
  have b:=Ez p N;cases h:p d<;>simp[h]<;>omega
theorem Ae{i c:Type} [DecidableEq c](f:i->c):∀(S:List c) (N:List i),S.Nodup->(S.flatMap λs=>N.filter λd=>decide (f d=s)).length<=N.length
 | [],N,_=>by simp
 |s::S,N,h=>by
  have j:=q2u.1 h;have k:=Ae f S (N.filter λd=>!decide (f d=s)) j.2
  have e:(S.flatMap λa=>N.filter λd=>decide (f d=a))=S.flatMap λa=>(N.filter λd=>!decide (f d=s)).filter λd=>decide (f d=a):=by
   have:∀b:List c,(∀x∈b,x≠s)->(b.flatMap λa=>N.filter λd=>decide (f d=a))=b.flatMap λa=>(N.filter λd=>!decide (f d=s)).filter λd=>decide (f d=a):=λb=>by
    induction b with
    |nil=>intro _;rfl
    |cons x b k=>
     intro g;rw[q4j,q4j,k λy m=>g y (Y4 _ m)];congr 1;rw[List.filter_filter];refine List.filter_congr λd _=>?_
     have:=g x q0b;by_cases q:f d=x
     ·have n:¬f d=s:=λe=>this (q.symm.trans e)
      simp[q,this]
     ·simp[q]
   exact this S λx g e=>j.1 (e▸g)
  rw[q4j,Z5,e];have l:=Ez (λd=>decide (f d=s)) N;omega
theorem ur{L:List Tx}(h:UpT L):L.Nodup:=h.imp λ{a b} q e=>by
 subst e;rw[il]at q;cases q
theorem B0(R:Gr)(so:Rl->Bool):(pkF R so).length<=R.length:=by
 have b:=Ae (λd=>(rul R d).src) (aK ((R.filter λe=>so e.2).map λe=>e.2.src)) (aK ((R.filter λe=>so e.2).map Prod.fst)) (ur (bb _).1);have a:=cu ((R.filter λe=>so e.2).map Prod.fst);rw[Y9]at a;have c:=kJ (p:=λe:Tx×Rl=>so e.2) R
 have e:(pkF R so).length=((aK ((R.filter λe=>so e.2).map λe=>e.2.src)).flatMap λs=>(aK ((R.filter λe=>so e.2).map Prod.fst)).filter λd=>decide ((rul R d).src=s)).length:=by
  unfold pkF pkS;rw[List.length_flatMap,List.length_flatMap];congr 1;refine q2y λs _=>?_
  rw[Y9]
 omega
section
variable {V:Type}
def mpA(A:List (Tx×V)):MpC Tx V:=⟨A,List.range A.length,A.length⟩
theorem B3{A:List (Tx×V)}(h:(A.map Prod.fst).Nodup):(mpA A).Ok:=⟨List.length_range,List.nodup_range,λx a=>q2m.1 a,h⟩
theorem qh{A:List (Tx×V)}(h:(A.map Prod.fst).Nodup)(k x:Tx):aG (du A k) x=if x=k then none else aG A x:=by
 have:=Es (B3 h) k x;rw[yc]at this;exact this
theorem m6{A:List (Tx×V)}(h:(A.map Prod.fst).Nodup)(k:Tx)(v:V)(x:Tx):aG (eg A k v) x=if x=k then some v else aG A x:=by
 have:=x9 (B3 h) k v x;rw[Et]at this;exact this
theorem tj{A:List (Tx×V)}(h:(A.map Prod.fst).Nodup)(k:Tx):((du A k).map Prod.fst).Nodup:=by
 have:=((B3 h).del k).key;rw[yc]at this;exact this
theorem tk{A:List (Tx×V)}(h:(A.map Prod.fst).Nodup)(k:Tx)(v:V):((eg A k v).map Prod.fst).Nodup:=by
 have:=((B3 h).put k v).key;rw[Et]at this;exact this
theorem pK(A:List (Tx×V))(k:Tx):(du A k).length<=A.length:=by
 unfold du;split
 ·exact Z6 _
 ·exact List.length_eraseIdx_le _ _
theorem tm(A:List (Tx×V))(k:Tx)(v:V):(eg A k v).length<=A.length+1:=by
 unfold eg;split
 ·simp
 ·rw[List.length_set];omega
end
theorem Af:∀{L:List Rl} {A:Gr},(A.map Prod.fst).Nodup->((lG A L).map Prod.fst).Nodup/\(lG A L).length<=A.length/\∀d,aG (lG A L) d=if d∈L.map Rl.dst then none else aG A d
 | [],A,h=>⟨h,Z6 _,λd=>by simp[lG]⟩
 |r::L,A,h=>by
  obtain⟨a,b,c⟩:=Af (L:=L) (tj h r.dst);refine⟨a,Y7 b (pK _ _),λd=>?_⟩;show aG (lG (du A r.dst) L) d=_;rw[c,qh h];simp only[q1r,Z3];by_cases q:d∈L.map Rl.dst
  ·simp[q]
  ·by_cases e:d=r.dst<;>simp[q,e]
theorem K1{x:Gr}(h:(x.map Prod.fst).Nodup)(hd:∀e∈x,e.2.dst=e.1)(k:Tx):((u5 x k).map Prod.fst).Nodup/\(u5 x k).length<=x.length/\∀d,aG (u5 x k) d=match aG x d with
 |some r=>if qF k r=true then none else some r
 |none=>none:=by
 obtain⟨c,f,g⟩:=Af (L:=pkF x (qF k)) h;refine⟨c,f,λd=>?_⟩;unfold u5;rw[g];cases e:aG x d with
 |none=>simp
 |some r=>
  have hm:=bM e;have a:r.dst=d:=hd _ hm
  have:d∈(pkF x (qF k)).map Rl.dst<->qF k r=true:=by
   rw[q0e];constructor
   ·rintro⟨i,j,l⟩;obtain⟨b,m⟩:=(qe h hd i).1 j;rw[l]at b;have:=cT h b;rw[e]at this;injection this with this;subst this;exact m
   ·intro q;exact⟨r,(qe h hd r).2 ⟨by rw[a];exact hm,q⟩,a⟩
  (try simp only[this])
theorem EA{x:Gr}:∀{L:List Rl} {A:Gr},(A.map Prod.fst).Nodup->(∀r∈L,aG x r.dst=some r)->(∀d v,aG A d=some v->aG x d=some v)->(((L.foldl (λA r=>eg A r.dst r) A)).map Prod.fst).Nodup/\(L.foldl (λA r=>eg A r.dst r) A).length<=A.length+L.length/\(∀d v,aG (L.foldl (λA r=>eg A r.dst r) A) d=some v->aG x d=some v)/\(∀d v,aG A d=some v->aG (L.foldl (λA r=>eg A r.dst r) A) d=some v)/\∀r∈L,aG (L.foldl (λA r=>eg A r.dst r) A) r.dst=some r
 | [],A,h,_,b=>⟨h,Z6 _,b,λ_ _ h=>h,λr hr=>(by cases hr)⟩
 |r::L,A,h,e,b=>by
  have hr:=e r q0b;have c:=m6 h r.dst r
  obtain⟨g,k,i,f,j⟩:=EA (L:=L) (A:=eg A r.dst r) (tk h _ _) (λq a=>e q (Y4 _ a)) (λd v hd=>by
   rw[c]at hd;by_cases q:d=r.dst
   ·rw[if_pos q]at hd;injection hd with hd;subst hd q;exact hr
   ·rw[if_neg q]at hd;exact b d v hd)
  refine⟨g,?_,i,λd v hd=>f d v ?_,λq a=>?_⟩
  ·have:=tm A r.dst r;show(L.foldl _ (eg A r.dst r)).length<=_;rw[Z9];omega
  ·rw[c];by_cases q:d=r.dst
   ·subst q;have:=b _ _ hd;rw[hr]at this;rw[if_pos rfl];exact this
   ·rw[if_neg q];exact hd
  ·rcases Z3.1 a with rfl|a
   ·exact f _ _ (by rw[c,if_pos rfl])
   ·exact j q a
theorem K2{x:Gr}(h:(x.map Prod.fst).Nodup)(hd:∀e∈x,e.2.dst=e.1):((od x).map Prod.fst).Nodup/\(od x).length<=x.length/\∀d,aG (od x) d=aG x d:=by
 have a:∀r,r∈vg x<->(r.dst,r)∈x/\true=true:=λr=>qe h hd r
 obtain⟨f,g,i,_,j⟩:=EA (x:=x) (L:=vg x) (A:=[]) (by simp) (λr k=>cT h ((a r).1 k).1) (λd v q=>by cases q);refine⟨f,Y7 g (by simp only[q1j,q0w];exact B0 _ _),λd=>?_⟩;show aG (pH (vg x)) d=_;cases e:aG x d with
 |none=>
  cases l:aG (pH (vg x)) d with
  |none=>rfl
  |some v=>have:=i d v l;rw[e]at this;cases this
 |some r=>
  have b:=bM e;have c:r.dst=d:=hd _ b;have:=j r ((a r).2 ⟨by rw[c];exact b,rfl⟩);rw[c]at this;exact this
end Go.Proofs.YtflehenfikoniaaGreat
namespace Go.Proofs.YtflehenfikoniaaGreat
open Go Go.RowKit
def ofX (X:SpV) (k:Tx):List Rl:=ofG (vh X.R) k
def vi (X:SpV):List Rl:=vg (vh X.R)
section
variable {X:SpV} {c:SpC}
theorem bE.Rj(h:bE X c):((vh X.R).map Prod.fst).Nodup/\∀k,aG (vh X.R) k=X.R k:=m5 h.gk h.R
theorem bE.of(h:bE X c)(k:Tx):ofG c.g k=ofX X k:=BZ h.gk h.Rj.1 (λd=>by rw[h.R,h.Rj.2]) _
theorem bE.all(h:bE X c):vg c.g=vi X:=BZ h.gk h.Rj.1 (λd=>by rw[h.R,h.Rj.2]) _
theorem bE.IN(h:bE X c){d:Tx}{r:Rl}(a:X.R d=some r):r.dst=d:=h.dst (d,r) (bM (by rw[h.R];exact a))
theorem bE.rF(h:bE X c){k:Tx}{r:Rl}:r∈ofX X k<->X.R r.dst=some r/\r.src=k:=by
 rw[<-h.of];show r∈pkF c.g _<->_;rw[qe h.gk h.dst,pJ h.gk,h.R,decide_eq_true_eq]
theorem bE.IP(h:bE X c){r:Rl}:r∈vi X<->X.R r.dst=some r:=by
 rw[<-h.all];show r∈pkF c.g _<->_;rw[qe h.gk h.dst,pJ h.gk,h.R];simp
theorem bE.OH(h:bE X c)(k:Tx):(ofX X k).length<=1000:=by
 rw[<-h.of];have a:=B0 c.g λr=>decide (r.src=k)
 have b:=h.gl;have d:=h.n9;show(pkF c.g _).length<=1000;omega
end
section
variable {X:SpV} {r:Rl} {t:Int} {k:Tx}
theorem fh(X:SpV)(k:Tx)(e:fF)(x:Tx):(fX X k e).K x=if x=k then some e else X.K x:=rfl
theorem je:(cm X r t).R=X.R/\(cm X r t).n=X.n:=by unfold cm;split<;>exact⟨rfl,rfl⟩
theorem jf(h:k≠r.dst):(cm X r t).K k=X.K k:=by
 unfold cm;split
 ·rw[fh,if_neg h]
 ·rfl
theorem jz:((cm X r t).K k).isSome=(X.K k).isSome:=by
 unfold cm;split
 ·rename_i s d b a;rw[fh];split
  ·rename_i q;rw[q,a];rfl
  ·rfl
 ·rfl
def Bnd(X:SpV)(b:Nat):Prop:=∀k e,X.K k=some e->e.L.length<=b
theorem m7{b:Nat}(h:Bnd X b):Bnd (cm X r t) (b+1):=λk e a=>by
 unfold cm at a;split at a
 ·rename_i s d g f;rw[fh]at a;split at a
  ·injection a with a;subst a;have hb:=h _ _ f;show(gU r t s d).2.length<=b+1;unfold gU;split
   ·exact Nat.le_succ_of_le hb
   ·split
    ·exact Y7 (sT _ _ _ _ _) (by omega)
    ·exact Y7 (q1e _ _) (by omega)
  ·exact Nat.le_succ_of_le (h k e a)
 ·exact Nat.le_succ_of_le (h k e a)
end
def mxK(X:SpV)(k:Tx):Int:=match X.K k with
 |some e=>e.S.mx
 |none=> -1
def cY(k:Tx)(was t:Int)(X:SpV)(r:Rl):SpV:=cm (if 0<=was/\was<mxK X k then cm X r was else X) r t
def GK(X:SpV)(k:Tx)(e:fF)(t v p:Int):SpV:=fX X k {e with S:=(fg e.S e.L t v p).1.1,L:=(fg e.S e.L t v p).1.2}
def fk (X:SpV) (k:Tx) (t v p:Int):SpV×Int:=if cz X k≠0 then(X,cz X k)else match X.K k with
 |none=>(X,5)
 |some e=>if(fg e.S e.L t v p).2≠0 then(X,(fg e.S e.L t v p).2)else((ofX X k).foldl (cY k e.S.mx t) (GK X k e t v p),0)
def Links(X:SpV):Prop:=∀d r,X.R d=some r->(X.K r.src).isSome=true/\(X.K d).isSome=true
section
variable {X:SpV} {k:Tx} {was t:Int} {r:Rl}
theorem EB(h:k≠r.dst){b:Nat}(a:Bnd X b):(cY k was t X r).R=X.R/\(cY k was t X r).n=X.n/\(∀x,((cY k was t X r).K x).isSome=(X.K x).isSome)/\(cY k was t X r).K k=X.K k/\Bnd (cY k was t X r) (b+2):=by
 unfold cY;split
 ·exact⟨je.1.trans je.1,je.2.trans je.2,λx=>jz.trans jz,(jf h).trans (jf h),m7 (m7 a)⟩
 ·exact⟨je.1,je.2,λx=>jz,jf h,λx e c=>Nat.le_succ_of_le (m7 a x e c)⟩
theorem u6{k:Tx}{was t:Int}:∀(L:List Rl) {X:SpV} {b:Nat},(∀r∈L,k≠r.dst)->Bnd X b->(L.foldl (cY k was t) X).R=X.R/\(L.foldl (cY k was t) X).n=X.n/\(∀x,((L.foldl (cY k was t) X).K x).isSome=(X.K x).isSome)/\(L.foldl (cY k was t) X).K k=X.K k/\Bnd (L.foldl (cY k was t) X) (b+2*L.length)
 | [],X,b,_,a=>⟨rfl,rfl,λ_=>rfl,rfl,a⟩
 |r::L,X,b,h,a=>by
  obtain⟨c,d,e,f,g⟩:=EB (k:=k) (was:=was) (t:=t) (h r q0b) a;obtain⟨i,j,l,m,o⟩:=u6 L (λq p=>h q (Y4 _ p)) g;refine⟨i.trans c,j.trans d,λx=>(l x).trans (e x),m.trans f,?_⟩;rw[Z9,show b+2*(L.length+1)=b+2+2*L.length by omega];exact o
end
theorem m8{r:Rl}(h:cS r=true):r.src≠r.dst:=by
 unfold cS at h;simp only[Z7,q2x,decide_eq_false_iff_not]at h;exact h.2.2.2.1
theorem OI{S S':Sr}{L a:Smp}{t v p e:Int}(h:fg S L t v p=((S',a),e))(b:e≠0):S'=S/\a=L:=by
 unfold fg at h
 repeat' split at h
 all_goals(injection h with h1 h2;injection h1 with c d;first|exact⟨c.symm,d.symm⟩|exact absurd h2.symm b)
def Rk:DT:=[(1000005,[]),(4,[(some 1000000,[7,8]),(none,[0,1,2,3,4,5,6,7,8,9]),(none,[0,1,2,3,4,5,6,8,7,9])]),(5,[(some 0,[4]),(some 0,[26]),(some 0,[27]),(some 0,[28]),(some 0,[5]),(some 0,[29,30]),(some 0,[31]),(some 0,[6]),(some 0,[3])])]
def OJ:DT:=[(1,[(some 0,[1]),(some 0,[6]),(some 0,[7]),(some 0,[1,8]),(some 0,[2,8]),(some 0,[10,8]),(some 0,[11,8]),(some 0,[12,8]),(some 0,[3,8]),(some 0,[13,14,8]),(some 0,[15,8]),(none,[16,8]),(some 0,[9,17,8])])]
def Xk:FuncId->EP:=bg 73 [] (cV 24 (mZ QT) (aq 133 (dL 2 GrB Oo) (aq 75 (gT 5 SpB U7) (aq 61 (gT 5 SpB Rh) (aq 72 IL (aq 100 Ad evP))))))
theorem Rm:aW Xk:=aw (ba (ae (ae (ae (ae (ae az BX) OC) BV) OG) Ot) SK (BW _)) (by kernel_rfl) (by kernel_rfl)
def U8:FuncId->EP:=bg 32 Rk (bg 74 OJ Xk)
theorem IQ:aW U8:=aw (aw Rm (by kernel_rfl) (by kernel_rfl)) (by kernel_rfl) (by kernel_rfl)
def adJ (c:SpC) (k:Tx) (t:Int) (v:Int) (q:Int) (was:Int):AE×AH:=(mkE [(3,.si .i64 (q)),(4,.ptr 5 (0)),(5,.ptr 6 (0)),(6,.ptr 7 (0)),(10,.ptr 8 (0))],mkH [(0,.cells [.map 1,aA c.px,aA c.pg] true),(1,c.m.O kT gE),(2,.sep (IxB.Q c.x c.px)),(3,.sep (GrB.Q c.g c.pg)),(4,.sep (aI (aJ c.m.A))),(5,.cells [.ptr 0 0] true),(6,.cells [.ss k] true),(7,.cells [.si .i64 t,.si .i64 v] true),(8,.cells ([.si .i64 was]) true)])
def adL (c:SpC) (k:Tx) (t:Int) (v:Int) (was:Int) (L:List Rl) (j:Nat):AE×AH:=(mkE [(2,AV.fn 74 [] [.ptr 8 0,.ptr 5 0,.ptr 6 0,.ptr 7 0]),(13,.fr L.length 5 (ruL L)),(14,.si .i64 ((L.length:Int))),(15,.si .i64 ((j:Int)))],mkH [(0,.cells [.map 1,aA c.px,aA c.pg] true),(1,c.m.O kT gE),(2,.sep (IxB.Q c.x c.px)),(3,.sep (GrB.Q c.g c.pg)),(4,.sep (aI (aJ c.m.A))),(5,.cells [.ptr 0 0] true),(6,.cells [.ss k] true),(7,.cells [.si .i64 t,.si .i64 v] true),(8,.cells [.si .i64 was] true)])
theorem vI{c:SpC}{k:Tx}{t:Int}{v:Int}{was:Int}{L:List Rl}{j:Nat}{p n:Nat}{σ:AE}{H:AH}(f:p<=14)(h:ab H 14 (λb=>b) (bj (pa 2) σ) (AV.fn 74 [] [.ptr 8 0,.ptr 5 0,.ptr 6 0,.ptr 7 0]))(a:bj (pa 13) σ= .fr L.length 5 (ruL L))(d:mk (bj (pa 14) σ)= .si .i64 ((L.length:Int)))(e:mk (bj (pa 15) σ)= .si .i64 ((j:Int)))(i:H.get 0=some (.cells [.map 1,aA c.px,aA c.pg] true))(l:H.get 1=some (c.m.O kT gE))(o:H.get 2=some (.sep (IxB.Q c.x c.px)))(q:H.get 3=some (.sep (GrB.Q c.g c.pg)))(s:H.get 4=some (.sep (aI (aJ c.m.A))))(u:H.get 5=some (.cells [.ptr 0 0] true))(w:H.get 6=some (.cells [.ss k] true))(y:H.get 7=some (.cells [.si .i64 t,.si .i64 v] true))(z:H.get 8=some (.cells [.si .i64 was] true)):Cov p σ H n ((adL c k t v was L j).1,(adL c k t v was L j).2,14):=
 Cov.ofA f ⟨h,ab.frE a,.int d,.int e,trivial⟩ ⟨.inl ⟨_,i,an.refl rfl⟩,.inl ⟨_,l,an.refl (al aO fV)⟩,.inl ⟨_,o,an.sep _⟩,.inl ⟨_,q,an.sep _⟩,.inl ⟨_,s,an.sep _⟩,.inl ⟨_,u,an.refl rfl⟩,.inl ⟨_,w,an.refl rfl⟩,.inl ⟨_,y,an.refl rfl⟩,.inl ⟨_,z,an.refl rfl⟩,trivial⟩ rfl
theorem K3(X:SpV)(k:Tx)(t v p:Int)(c:SpC)(hc:bE X c)(h64:aP v)(hl:Links X)(hb:Bnd X 20000){Y:SpV×Int}(B:fk X k t v p=Y):ay U8 6 32 [.ptr 0 0,.ss k,.agg [.si .i64 t,.si .i64 v],.si .i64 p] (mkH (bF (spO c) 0)) 5 (gz SpB Y.1 (.si .i64 Y.2)):=by
 obtain⟨Y1,Y2⟩:=Y
 conv=>whnf
 refine⟨X,[.ss k],X,_,_,c,rfl,by decide,.cons .same .nil,hc,uq rfl rfl rfl rfl rfl,⟨k,rfl,rfl,rfl⟩,λo n=>?_⟩
 conv=>whnf
 refine ah.di (λP=>?_) (λP=>?_)
 focus
  unfold fk at B;rw[if_pos P]at B;injection B with e1 e2;subst e1 e2
  conv=>whnf
  exact⟨_,o,.told rfl,n,bQ rfl rfl rfl rfl rfl⟩
 have P:cz X k=0:=P;unfold fk at B;rw[if_neg (by rw[P];exact λq=>q rfl)]at B
 have hK:(X.K k).isSome=true:=by
  unfold cz at P;by_cases q:(X.K k).isSome=true
  ·exact q
  ·rw[if_neg q]at P;cases P
 obtain⟨e,he⟩:=q0n.1 hK;rw[he]at B;dsimp only at B;obtain⟨p1,A1,A2,g1,a1,u1,q1⟩:=n.at1 he;have hL:=hb k e he
 conv=>whnf
 refine qz.mk Unit 9 (λ_=>adJ o k t v p e.S.mx) ?_ ?_
 focus
  conv=>whnf
  refine⟨?_,?_,trivial⟩
  focus
   conv=>whnf
   refine Ask.mk _ (bd (m:=o.m) (g:=gE) (k:=k) bP nT rfl rfl rfl qn g1) ?_
   conv=>whnf
   refine⟨4,aJ A1,aJ A2,p1,e.S,e.L,_,rfl,by decide,by decide,rfl,congrArg (λx=>some (AO.sep (aI x))) q1,⟨rfl,rfl⟩,?_⟩
   conv=>whnf
   exact⟨(),Cov.ofN [(8,12)] ⟨sI,sP,sP,sP,sP,trivial⟩ ⟨oK 2,oK 0 (al aO fV),oS,oS,oS,oK 1,oK 0,oK 0,.inl ⟨_,rfl,an.st (.cons (.int rfl) .nil)⟩,trivial⟩⟩
  focus
   conv=>whnf
   refine Ask.mk _ (bd (m:=o.m) (g:=gE) (k:=k) bP nT rfl rfl rfl qn g1) ?_
   conv=>whnf
   refine⟨4,aJ A1,aJ A2,p1,e.S,e.L,_,rfl,by decide,by decide,rfl,congrArg (λx=>some (AO.sep (aI x))) q1,⟨rfl,rfl⟩,?_⟩
   conv=>whnf
   exact⟨(),Cov.ofN [(8,8)] ⟨sI,sP,sP,sP,sP,trivial⟩ ⟨oK 2,oK 0 (al aO fV),oS,oS,oS,oK 1,oK 0,oK 0,.inl ⟨_,rfl,an.st (.cons (.int rfl) .nil)⟩,trivial⟩⟩
 intro _;obtain⟨Z,hZ⟩:∃Z,Z=fg e.S e.L t v p:=⟨_,rfl⟩;have hK1:GK X k e t v p=fX X k {e with S:=Z.1.1,L:=Z.1.2}:=by rw[hZ];rfl
 rw[hK1,<-hZ]at B;obtain⟨⟨C,D⟩,en⟩:=Z;dsimp only at B hK1
 conv=>whnf
 refine Ask.mk _ (bd (m:=o.m) (g:=gE) (k:=k) bP nT rfl rfl rfl qn g1) ?_
 conv=>whnf
 refine⟨4,aJ A1,aJ A2,p1,e.S,e.L,t,v,p,C,D,en,rfl,by decide,by decide,rfl,congrArg (λx=>some (AO.sep (aI x))) q1,⟨_,_,rfl,rfl,rfl⟩,rfl,h64,by omega,hZ.symm,λho=>?_⟩;obtain⟨k1,k2,k3⟩:=n.ym he g1 a1 u1 ho
 conv=>whnf
 refine ah.di (λz2=>?_) (λz2=>?_)
 focus
  rw[if_pos z2]at B;injection B with e1 e2;subst e1 e2
  have hs:fX X k {e with S:=C,L:=D}=X:=by
   obtain⟨a1,a2⟩:C=e.S/\D=e.L:=OI hZ.symm z2;rw[a1,a2];exact BY he
  rw[hs]at k1
  conv=>whnf
  exact⟨_,{o with m:=o.m.put k ⟨p1,C,D,e.z⟩},.told rfl,k1,bQ rfl (congrArg some k2.symm) rfl rfl (congrArg (λx=>some (AO.sep (aI x))) k3.symm)⟩
 rw[if_neg (λq=>q z2)]at B;injection B with e1 e2;subst e1 e2;obtain⟨a,J⟩:∃a,a=ofX X k:=⟨_,rfl⟩;have hR1:ofG o.g k=a:=by rw[J];exact n.of k
 rw[<-J]
 have Q:∀r∈a,k≠r.dst/\X.R r.dst=some r/\r.src=k:=λr T=>by
  rw[J]at T;obtain⟨m1,m2⟩:=n.rF.1 T;exact⟨λq=>m8 (n.rul _ _ m1) (m2.trans q),m1,m2⟩
 have hlen:a.length<=1000:=by rw[J];exact n.OH k
 have hgl:o.g.length<=1000:=Y7 n.gl n.n9;obtain⟨H,F⟩:∃H,H=fX X k {e with S:=C,L:=D}:=⟨_,rfl⟩;rw[<-F]at k1;rw[<-F]
 have hB1:Bnd H 20001:=λx y U=>by
  rw[F,fh]at U;split at U
  ·injection U with U;subst U;have:=sT e.S e.L t v p;rw[<-hZ]at this;show D.length<=20001;have h4:D.length<=e.L.length+1:=this;omega
  ·exact Y7 (hb x y U) (by decide)
 have hXk:H.K k=some {e with S:=C,L:=D}:=by rw[F,fh,if_pos rfl]
 have hXs:∀x,(H.K x).isSome=(X.K x).isSome:=λx=>by
  rw[F,fh];by_cases q:x=k
  ·subst q;rw[if_pos rfl,he];rfl
  ·rw[if_neg q]
 obtain⟨I,M⟩:∃I:SpC,I={o with m:=o.m.put k ⟨p1,C,D,e.z⟩}:=⟨_,rfl⟩;have k2':o.m.O kT gE=I.m.O kT gE:=by rw[M];exact k2.symm
 have k3':aJ A1++cq p1 C D::aJ A2=aJ I.m.A:=by rw[M];exact k3.symm
 have E:I.px=o.px/\I.pg=o.pg/\I.x=o.x/\I.g=o.g:=by rw[M];exact⟨rfl,rfl,rfl,rfl⟩
 rw[<-M]at k1
 conv=>whnf
 refine⟨3,o.pg,o.g,[.ss k],.fr a.length 5 (ruL a),rfl,by decide,by decide,.cons .same .nil,rfl,rfl,⟨k,rfl,hgl,by rw[hR1]⟩,?_⟩
 conv=>whnf
 refine aQ.mk {w:Nat×SpC//w.1<=a.length/\bE ((a.take w.1).foldl (cY k e.S.mx t) H) w.2} 14 (λw=>adL w.val.2 k t v e.S.mx a w.val.1) (λw=>a.length-w.val.1) ⟨(0,I),Y5 _,k1⟩ ?_ ?_
 focus
  refine vI (c:=I) (k:=k) (t:=t) (v:=v) (was:=e.S.mx) (L:=a) (j:=0) ?_ ?_ ?_ ?_ ?_ ?_ ?_ ?_ ?_ ?_ ?_ ?_ ?_ ?_
  ·exact Z6 14
  ·exact ab.ig (k:=14) rfl rfl (Z6 14) (λ_ _=>rfl)
  ·exact rfl
  ·exact rfl
  ·exact rfl
  ·rw[E.1,E.2.1];exact rfl
  ·exact congrArg some k2'
  ·rw[E.1,E.2.2.1];exact rfl
  ·rw[E.2.1,E.2.2.2];exact rfl
  ·exact congrArg (λx=>some (AO.sep (aI x))) k3'
  ·exact rfl
  ·exact rfl
  ·exact rfl
  ·exact rfl
 intro⟨(j,W),hj,u⟩;have hj:j<=a.length:=hj;obtain⟨i,N⟩:∃i,i=(a.take j).foldl (cY k e.S.mx t) H:=⟨_,rfl⟩;have u:bE i W:=by rw[N];exact u
 have hw:IntKind.i64.wrap ((j:Int)+1)=((j+1:Nat):Int):=by rw[aj (by omega) (by omega)];omega
 obtain⟨f1,f2,f3,f4,f5⟩:=u6 (k:=k) (was:=e.S.mx) (t:=t) (a.take j) (X:=H) (b:=20001) (λr T=>(Q r (q3f T)).1) hB1;rw[<-N]at f1 f2 f3 f4 f5;rw[hXk]at f4;have hB3:Bnd i 25000:=λx y U=>Y7 (f5 x y U) (by rw[q0g];omega)
 conv=>whnf
 refine ah.dec (λh=>?_) (λh=>?_)
 focus
  have h3:j<a.length:=q0t.1 h;have hlt:a.length-(j+1)<a.length-j:=by omega
  obtain⟨r,T⟩:∃r,r=a[j]:=⟨_,rfl⟩;have sub:bq (ruL a) (j*5) 5=some (ruC r):=by rw[T];exact qd h3 rfl
  obtain⟨m1,m2,m3⟩:=Q r (by rw[T];exact q0i h3)
  have f:(a.take (j+1)).foldl (cY k e.S.mx t) H=cY k e.S.mx t i r:=by
   rw[Y8 h3,q2s,<-N,<-T];rfl
  have s:i.K r.src=some {e with S:=C,L:=D}:=by rw[m3];exact f4
  have hdS:(i.K r.dst).isSome=true:=by rw[f3,hXs];exact(hl _ _ m2).2
  obtain⟨d,hd⟩:=q0n.1 hdS;have hmx:mxK i k=C.mx:=by unfold mxK;rw[f4]
  obtain⟨p3,C1,C2,g3,a3,u3,q3⟩:=u.at1 f4;have lsrc:=hB3 _ _ s;have ldst:=hB3 _ _ hd;have one:¬(0<=e.S.mx/\e.S.mx<mxK i k)->cY k e.S.mx t i r=cm i r t:=λq=>by unfold cY;rw[if_neg q]
  have two:0<=e.S.mx->e.S.mx<C.mx->cY k e.S.mx t i r=cm (cm i r e.S.mx) r t:=λq q2=>by unfold cY;rw[if_pos ⟨q,by rw[hmx];exact q2⟩]
  conv=>whnf
  refine Idx.mk j rfl h3 ?_
  conv=>whnf
  refine au sub ?_
  conv=>whnf
  refine ah.dec (λz3=>?_) (λz3=>?_)
  focus
   conv=>whnf
   refine Ask.mk _ (bd (m:=W.m) (g:=gE) (k:=k) bP nT rfl rfl rfl qn g3) ?_
   conv=>whnf
   refine⟨4,aJ C1,aJ C2,p3,C,D,_,rfl,by decide,by decide,rfl,congrArg (λx=>some (AO.sep (aI x))) q3,⟨rfl,rfl⟩,?_⟩
   conv=>whnf
   refine ah.dec (λz4=>?_) (λz4=>?_)
   focus
    have hs2:(cm i r e.S.mx).K r.src=some {e with S:=C,L:=D}:=by rw[jf (by rw[m3];exact m1)];exact s
    obtain⟨d2,hd2⟩:=q0n.1 (show((cm i r e.S.mx).K r.dst).isSome=true by rw[jz];exact hdS);have ld2:=m7 hB3 _ _ hd2;rw[two z3 z4]at f
    conv=>whnf
    refine⟨i,[gR r,.si .i64 e.S.mx],cm i r e.S.mx,.tup [],_,W,rfl,by decide,.cons .same (.cons .same .nil),u,uq rfl rfl rfl rfl rfl,⟨r,e.S.mx,_,d,rfl,s,hd,by omega,by omega,rfl,rfl⟩,λc4 hc4=>?_⟩
    conv=>whnf
    refine⟨cm i r e.S.mx,[gR r,.si .i64 t],cm (cm i r e.S.mx) r t,.tup [],_,c4,rfl,by decide,.cons .same (.cons .same .nil),hc4,uq rfl rfl rfl rfl rfl,⟨r,t,_,d2,rfl,hs2,hd2,by omega,by omega,rfl,rfl⟩,λV G=>?_⟩
    conv=>whnf
    exact⟨⟨(j+1,V),h3,by rw[f];exact G⟩,hlt,vI (c:=V) (k:=k) (t:=t) (v:=v) (was:=e.S.mx) (L:=a) (j:=j+1) (Z6 14) (ab.ig (k:=14) rfl rfl (Z6 14) (λ_ _=>rfl)) rfl rfl (congrArg (AV.si .i64) hw) rfl rfl rfl rfl rfl rfl rfl rfl rfl⟩
   rw[one (λq=>z4 (by rw[<-hmx];exact q.2))]at f
   conv=>whnf
   refine⟨i,[gR r,.si .i64 t],cm i r t,.tup [],_,W,rfl,by decide,.cons .same (.cons .same .nil),u,uq rfl rfl rfl rfl rfl,⟨r,t,_,d,rfl,s,hd,by omega,by omega,rfl,rfl⟩,λV G=>?_⟩
   conv=>whnf
   exact⟨⟨(j+1,V),h3,by rw[f];exact G⟩,hlt,vI (c:=V) (k:=k) (t:=t) (v:=v) (was:=e.S.mx) (L:=a) (j:=j+1) (Z6 14) (ab.ig (k:=14) rfl rfl (Z6 14) (λ_ _=>rfl)) rfl rfl (congrArg (AV.si .i64) hw) rfl rfl rfl rfl rfl rfl rfl rfl rfl⟩
  rw[one (λq=>z3 q.1)]at f
  conv=>whnf
  refine⟨i,[gR r,.si .i64 t],cm i r t,.tup [],_,W,rfl,by decide,.cons .same (.cons .same .nil),u,uq rfl rfl rfl rfl rfl,⟨r,t,_,d,rfl,s,hd,by omega,by omega,rfl,rfl⟩,λV G=>?_⟩
  conv=>whnf
  exact⟨⟨(j+1,V),h3,by rw[f];exact G⟩,hlt,vI (c:=V) (k:=k) (t:=t) (v:=v) (was:=e.S.mx) (L:=a) (j:=j+1) (Z6 14) (ab.ig (k:=14) rfl rfl (Z6 14) (λ_ _=>rfl)) rfl rfl (congrArg (AV.si .i64) hw) rfl rfl rfl rfl rfl rfl rfl rfl rfl⟩
 have ej:j=a.length:=by have h:¬(j:Int)<(a.length:Int):=h;omega
 have hfin:bE (a.foldl (cY k e.S.mx t) H) W:=by rw[<-q0k (l:=a),<-ej,<-N];exact u
 conv=>whnf
 exact⟨_,W,.told rfl,hfin,bQ rfl rfl rfl rfl rfl⟩
def nU(X:SpV)(cs:List AV)(a:SpV)(u:AV):Prop:=∃k t v p Y,cs=[.ss k,.agg [.si .i64 t,.si .i64 v],.si .i64 p]/\aP v/\Links X/\Bnd X 20000/\fk X k t v p=Y/\a=Y.1/\u= .si .i64 Y.2
theorem IS:∀X cs a u,nU X cs a u->cs.all gy=true/\gy u=true/\∀c,SpB.ok X c->ay U8 6 32 (.ptr 0 0::cs) (mkH (bF (SpB.O c) 0)) 5 (gz SpB a u):=λX cs a u ⟨k,t,v,p,Y,b,d,e,f,g,h,i⟩=>by
 subst b h i;exact⟨rfl,rfl,λc j=>K3 X k t v p c j d e f g⟩
theorem Rn:ai 32 (gT 5 SpB nU):=u4 (ax IQ 6 _) (by kernel_rfl) SpB rfl (by decide) IS
theorem B4:ai 32 (cL 5 SpB nU):=gA IQ 6 (by kernel_rfl) SpB rfl (by decide) IS
def oe (X:SpV):List Tx:=aK ((vh X.K).map Prod.fst)
theorem bE.K4{X:SpV}{c:SpC}(h:bE X c):((vh X.K).map Prod.fst).Nodup/\∀k,aG (vh X.K) k=X.K k:=by
 let A:List (Tx×fF):=c.x.A.filterMap λe=>(X.K e.1).map λy=>(e.1,y)
 have j:∀e∈c.x.A,∃y,X.K e.1=some y:=λe l=>by
  have a:=cT h.xk (show(e.1,e.2)∈c.x.A from l);rw[h.I]at a;obtain⟨y,b,_⟩:=Z8.1 a;exact⟨y,b⟩
 have m:A.map Prod.fst=c.x.A.map Prod.fst:=by
  have:∀B:List (Tx×List Lab),(∀e∈B,∃y,X.K e.1=some y)->(B.filterMap λe=>(X.K e.1).map λy=>(e.1,y)).map Prod.fst=B.map Prod.fst:=λB=>by
   induction B with
   |nil=>intro _;rfl
   |cons e B n=>
    intro g;obtain⟨y,b⟩:=g e q0b;rw[List.filterMap_cons,b];simp only[q0h,q1r];rw[n λq d=>g q (Y4 _ d)]
  exact this _ j
 have nd:(A.map Prod.fst).Nodup:=by rw[m];exact h.xk
 refine m5 nd λk=>?_
 cases e:X.K k with
 |none=>
  cases o:aG A k with
  |none=>rfl
  |some y=>
   obtain⟨q,_,d⟩:=q2p.1 (bM o);obtain⟨z,i,f⟩:=Z8.1 d;injection f with f h3;rw[f,e]at i;cases i
 |some y=>
  have a:=h.I k;rw[e]at a;exact cT nd (q2p.2 ⟨(k,y.lab),bM a,by rw[e];rfl⟩)
theorem bE.keys{X:SpV}{c:SpC}(h:bE X c):aK (c.x.A.map Prod.fst)=oe X:=yo λk=>by
 rw[q0e,q0e];constructor
 ·rintro⟨e,b,rfl⟩;have a:=cT h.xk (show(e.1,e.2)∈c.x.A from b);rw[h.I]at a;obtain⟨y,d,_⟩:=Z8.1 a;exact⟨(e.1,y),bM (by rw[h.K4.2];exact d),rfl⟩
 ·rintro⟨e,b,rfl⟩;have a:=cT h.K4.1 (show(e.1,e.2)∈vh X.K from b);rw[h.K4.2]at a;exact⟨(e.1,e.2.lab),bM (by rw[h.I,a];rfl),rfl⟩
theorem uu{X:SpV}{c:SpC}(h:bE X c){k:Tx}:k∈oe X<->(X.K k).isSome=true:=by
 unfold oe;rw[(bb _).2,q0e];constructor
 ·rintro⟨e,b,rfl⟩;have a:=cT h.K4.1 (show(e.1,e.2)∈vh X.K from b);rw[h.K4.2]at a;rw[a];rfl
 ·intro q;obtain⟨y,d⟩:=q0n.1 q;exact⟨(k,y),bM (by rw[h.K4.2];exact d),rfl⟩
def U9(X:SpV)(cs:List AV)(v:AV):Prop:=cs=[]/\v= .fr (oe X).length 1 (strs (oe X))
def Va(X:SpV)(cs:List AV)(v:AV):Prop:=cs=[]/\v= .fr (vi X).length 5 (ruL (vi X))
def YE:FuncId->EP:=aq 65 (dL 4 IxB W4) (aq 53 (dL 2 GrB On) evP)
theorem IT:aW YE:=ae (ae az Ra) Ol
theorem EC:ai 25 (dL 5 SpB U9):=(gA IT 5 (by kernel_rfl) SpB rfl (by decide) λX cs b v ⟨d,e,f⟩=>by
 subst d e f;refine⟨rfl,rfl,λc a=>?_⟩;have hk:=a.keys;have g:c.x.A.length<=1000:=Y7 a.xl a.n9
 conv=>whnf
 refine⟨2,c.px,c.x,[],.fr (oe b).length 1 (strs (oe b)),rfl,by decide,by decide,.nil,rfl,rfl,?_,?_⟩
 ·exact⟨rfl,Y7 g (by decide),by rw[hk];rfl⟩
 conv=>whnf
 exact⟨_,c,.same,a,bQ rfl rfl rfl rfl rfl⟩).ol
theorem Ag:ai 12 (dL 5 SpB Va):=(gA IT 5 (by kernel_rfl) SpB rfl (by decide) λX cs b v ⟨d,e,f⟩=>by
 subst d e f;refine⟨rfl,rfl,λc a=>?_⟩;have hk:=a.all;have h:c.g.length<=1000:=Y7 a.gl a.n9
 conv=>whnf
 refine⟨3,c.pg,c.g,[],.fr (vi b).length 5 (ruL (vi b)),rfl,by decide,by decide,.nil,rfl,rfl,?_,?_⟩
 ·exact⟨rfl,h,by rw[hk]⟩
 conv=>whnf
 exact⟨_,c,.same,a,bQ rfl rfl rfl rfl rfl⟩).ol
def qo(X:SpV)(d:Tx)(r:Option Rl):SpV:={X with R:=λx=>if x=d then r else X.R x}
def uv(X:SpV)(s d:Tx):SpV×Int:=match X.R d with
 |none=>(X,5)
 |some r=>if r.src=s then(qo X d none,0)else(X,5)
def Vb(X:SpV)(cs:List AV)(a:SpV)(v:AV):Prop:=∃s d Y,cs=[.ss s,.ss d]/\uv X s d=Y/\a=Y.1/\v= .si .i64 Y.2
def YF:FuncId->EP:=aq 109 (cL 2 GrB Xd) evP
theorem Ro:aW YF:=ae az Ow
theorem bE.gr{X:SpV}{c:SpC}(h:bE X c){g:Gr}{R:Tx->Option Rl}(a:(g.map Prod.fst).Nodup)(b:g.length<=X.n)(d:∀k,aG g k=R k)(f:∀e∈g,e.2.dst=e.1)(i:∀k r,R k=some r->cS r=true):bE {X with R:=R} {c with g:=g}:=
 ⟨h.o,h.xk,a,h.n9,h.ml,h.xl,h.xw,b,h.K,h.I,d,f,h.ser,h.key,i⟩
theorem yp:ai 49 (cL 5 SpB Vb):=gA Ro 5 (by kernel_rfl) SpB rfl (by decide) λX cs m v ⟨s,d,Y,i,b,j,k⟩=>by
 subst i j k;refine⟨rfl,rfl,λc a=>?_⟩;have f:=a.R d;unfold uv at b;cases hd:X.R d with
 |none=>
  rw[hd]at f b;have e:qG c.g s d=(c.g,.tup [.agg [.str [],.str [],.int .i64 0,.int .i64 0,.int .i64 0],.si .i64 5]):=by unfold qG;rw[f]
  subst b
  conv=>whnf
  refine⟨3,c.pg,c.g,[.ss s,.ss d],_,_,_,rfl,by decide,by decide,.cons .same (.cons .same .nil),rfl,rfl,⟨s,d,_,rfl,e,rfl,rfl⟩,?_⟩
  conv=>whnf
  exact⟨_,c,.told rfl,a,bQ rfl rfl rfl rfl rfl⟩
 |some r=>
  rw[hd]at f b;dsimp only at b;by_cases q:r.src=s
  ·have e:qG c.g s d=(du c.g d,.tup [gR r,.si .i64 0]):=by unfold qG;rw[f];exact if_pos q
   rw[if_pos q]at b;subst b
   have ok:bE (qo X d none) {c with g:=du c.g d}:=a.gr (tj a.gk d) (Y7 (pK _ _) a.gl) (λx=>by rw[qh a.gk,a.R]) (λe l=>a.dst e (tg l)) (λx y h=>by
    by_cases q:x=d
    ·rw[if_pos q]at h;cases h
    ·rw[if_neg q]at h;exact a.rul x y h)
   conv=>whnf
   refine⟨3,c.pg,c.g,[.ss s,.ss d],_,_,_,rfl,by decide,by decide,.cons .same (.cons .same .nil),rfl,rfl,⟨s,d,_,rfl,e,rfl,rfl⟩,?_⟩
   conv=>whnf
   exact⟨_,{c with g:=du c.g d},.told rfl,ok,bQ rfl rfl rfl rfl rfl⟩
  ·have e:qG c.g s d=(c.g,.tup [.agg [.str [],.str [],.int .i64 0,.int .i64 0,.int .i64 0],.si .i64 5]):=by unfold qG;rw[f];exact if_neg q
   rw[if_neg q]at b;subst b
   conv=>whnf
   refine⟨3,c.pg,c.g,[.ss s,.ss d],_,_,_,rfl,by decide,by decide,.cons .same (.cons .same .nil),rfl,rfl,⟨s,d,_,rfl,e,rfl,rfl⟩,?_⟩
   conv=>whnf
   exact⟨_,c,.told rfl,a,bQ rfl rfl rfl rfl rfl⟩
section
variable {φ:Ph} {H:AH} {n:Nat} {h0 h:Hp} {b m:Nat} {Q Q' R:HP}
theorem HR.shrink(a:HR φ H n h0 h)(w:H.get b=some (.sep Q))(d:∀z X h,Q.P z X h->∃Y:Nat->Prop,(∀B,Y B->X B)/\Q'.P z Y h):∃ψ,PLe φ ψ/\HR ψ (H.set (some (.sep Q')) aa b) n h0 h:=by
 obtain⟨Y,U,V⟩:=d _ _ _ (a.sep b _ w).1;have s4:=(a.sep b _ w).2;have l:=a.nL w
 let ψ:Ph:=⟨φ.f,φ.z,φ.y,λx=>if x=b then Y else φ.s x⟩
 have sb:ψ.s b=Y:=if_pos rfl
 have N:∀x,x≠b->ψ.s x=φ.s x:=λx p=>if_neg p
 have cs:∀x o,(H.set (some (.sep Q')) aa b).get x=some o->(x=b/\o= .sep Q')∨(x≠b/\H.get x=some o):=λx o c=>by
  rcases PM.ak aa H b x o c with⟨p,i⟩|i
  ·injection i with i;exact .inl ⟨p,i.symm⟩
  ·exact .inr i
 have own:∀x o q,(H.set (some (.sep Q')) aa b).get x=some o->φ x=some q->H.get x=some o:=λx o q c d=>by
  rcases cs x o c with⟨rfl,_⟩|⟨_,C⟩
  ·rw[l]at d;cases d
  ·exact C
 have sle:SLe φ ψ:=⟨λ_ _ h=>h,λ_ h=>h⟩
 have up:∀{x B},ψ.s x B->φ.s x B:=λ{x B} k=>by
  by_cases q:x=b
  ·subst q;rw[sb]at k;exact U B k
  ·rw[N x q]at k;exact k
 refine⟨ψ,⟨λ_ _ h=>h,λ_ h=>h,λ_ h=>h⟩,⟨a.dom,λx o c=>?_,λx y o r q O c j ho D d t e=>a.inj x y o r q O (own x o q c d) (own y r O j t) ho D d t e,a.base,a.size,λq d=>⟨⟨FzR.mono (φ:=φ) (ψ:=ψ) sle.z (a.frz q d).1.1,(a.frz q d).1.2⟩,λx o px c ho u=>(a.frz q d).2 x o px (own x o px c u) ho u⟩,λx A c=>?_⟩⟩
 ·rcases cs x o c with⟨rfl,rfl⟩|⟨_,W⟩
  ·exact .inl ⟨l,rfl⟩
  ·rcases a.live x o W with g|⟨q,Z,E,F,G,I⟩
   ·exact .inl g
   ·exact .inr ⟨q,Z,E,F,G,I.c8 sle⟩
 ·have v:∀{y A},(H.set (some (.sep Q')) aa b).get y=some (.sep A)->∃J,H.get y=some (.sep J):=λ{y A} j=>by
   rcases cs y _ j with⟨rfl,_⟩|⟨_,C⟩
   ·exact⟨_,w⟩
   ·exact⟨_,C⟩
  refine⟨?_,λB k=>?_⟩
  ·rcases cs x _ c with⟨rfl,i⟩|⟨p,i⟩
   ·injection i with i;subst i;rw[sb];exact V
   ·rw[N x p];exact(a.sep x A i).1
  ·obtain⟨J,K⟩:=v c;obtain⟨E,F,G,I⟩:=(a.sep x J K).2 B (up k)
   exact⟨E,λy r S j ho T=>F y r S (own y r S j T) ho T,G,λy Q4 j L hs=>by
    obtain⟨Q5,M⟩:=v j;exact I y Q5 M L (up hs)⟩
theorem K5(A C:List HP){z:Fz->Prop}{X:Nat->Prop}{h:Hp}(a:(aI (A++Q::C)).P z X h):∃Y:Nat->Prop,(∀B,Y B->X B)/\(aI (A++C)).P z Y h:=by
 obtain⟨Y,Z,c,f,g,d⟩:=ui A a;exact⟨Z,λB e=>(c B).2 (.inr e),d⟩
theorem Re.YG{A C:List HP}{u v:AV}(c:H.get b=some (.sep (aI (A++Q::C))))(e:mkT u=mkT v):Re H n u (H.set (some (.sep (aI (A++C)))) aa b) v:=λφ h0 h w d f=>by
 obtain⟨g,l,a⟩:=d.shrink c λz X h=>K5 A C
 exact⟨g,l,a,VR.mono l _ _ (Iz (e▸f.mkT))⟩
theorem HR.IU(i:HR φ H n h0 h)(a:b<1000000)(c:b≠m){A C:List HP}(j:H.get b=some (.sep (aI (A++C))))(k:H.get m=some (.sep Q)):∃ψ,PLe φ ψ/\HR ψ ((H.set none aa m).set (some (.sep (aI (A++Q::C)))) aa b) n h0 h:=by
 obtain⟨ψ,l,d⟩:=i.join c j k;have e:=d.uT (Q':=aI (A++Q::C)) (PM.geq a) λ_ _ _=>x0 A
 refine⟨ψ,l,e.less λx o p=>?_⟩;rcases PM.ak aa _ b x o p with⟨rfl,f⟩|⟨g,f⟩
 ·rw[PM.geq a];exact f
 ·exact PM.gne a g (PM.gne a g f)
theorem Re.IU{A C:List HP}{u v:AV}(a:b<1000000)(c:b≠m)(f:H.get b=some (.sep (aI (A++C))))(g:H.get m=some (.sep Q))(e:mkT u=mkT v):Re H n u ((H.set none aa m).set (some (.sep (aI (A++Q::C)))) aa b) v:=λφ h0 h w i j=>by
 obtain⟨k,l,d⟩:=i.IU a c f g;exact⟨k,l,d,VR.mono l _ _ (Iz (e▸j.mkT))⟩
end
def kK(X:SpV)(k:Tx):SpV:=if(X.K k).isSome=true then{X with K:=λx=>if x=k then none else X.K x,R:=λd=>match X.R d with
 |some r=>if qF k r=true then none else some r
 |none=>none}else X
def Rp(X:SpV)(cs:List AV)(a:SpV)(v:AV):Prop:=∃k,cs=[.ss k]/\a=kK X k/\v= .sb (X.K k).isSome
def Vc:FuncId->EP:=aq 68 (cL 4 IxB Q6) (aq 69 (cL 2 GrB Xb) evP)
theorem Rq:aW Vc:=ae (ae az Ou) Oi
theorem bE.drop{X:SpV}{c:SpC}(h:bE X c){k:Tx}(i:(X.K k).isSome=true):bE (kK X k) {c with m:=c.m.del k,x:=⟨du c.x.A k,c.x.w⟩,g:=u5 c.g k}:=by
 obtain⟨j,l,p⟩:=K1 h.gk h.dst k;unfold kK;rw[if_pos i];refine⟨h.o.del k,tj h.xk k,j,h.n9,?_,Y7 (pK _ _) h.xl,h.xw,Y7 l h.gl,λx=>?_,λx=>?_,λd=>?_,λe a=>h.dst e (uo a),λx e a=>?_,λx e a=>?_,λd r f=>?_⟩
 ·rw[yc];exact Y7 (pK _ _) h.ml
 ·rw[Es h.o];by_cases q:x=k
  ·simp[q]
  ·simp[q,h.K x]
 ·rw[qh h.xk];by_cases q:x=k
  ·simp[q]
  ·simp[q,h.I x]
 ·rw[p,h.R]<;>rfl
 ·dsimp only at a;by_cases q:x=k
  ·rw[if_pos q]at a;cases a
  ·rw[if_neg q]at a;exact h.ser x e a
 ·dsimp only at a;by_cases q:x=k
  ·rw[if_pos q]at a;cases a
  ·rw[if_neg q]at a;exact h.key x e a
 ·dsimp only at f;split at f
  ·rename_i s t;split at f
   ·cases f
   ·injection f with f;subst f;exact h.rul d s t
  ·cases f
theorem bE.YH{X:SpV}{c:SpC}(h:bE X c){k:Tx}{E:SE}{a f:List (Tx×SE)}(g:c.m.A=a++(k,E)::f):(c.m.del k).A=a++f:=by
 have j:∀e∈a,k≠e.1:=λe d q=>by
  have:=h.o.key;rw[g,q0m,q1r,q3r]at this;exact this.2.2 e.1 (q0e.2 ⟨e,d,rfl⟩) k q0b q.symm
 have l:∀(a:List (Tx×SE)) (i:Nat),(∀e∈a,k≠e.1)->gG k (a++(k,E)::f) i=some (i+a.length,E):=λa=>by
  induction a with
  |nil=>intro i _;simp[gG]
  |cons e a p=>
   intro i d;rw[q1q];unfold gG;rw[if_neg (d e q0b),p (i+1) λx r=>d x (Y4 _ r)];simp only[Z9];congr 2;omega
 rw[yc,g];unfold du;rw[l a 0 j];dsimp only;rw[q0w,List.eraseIdx_append_of_length_le (Z6 _),Nat.sub_self];rfl
theorem GL(X:SpV)(k:Tx)(c:SpC)(a:bE X c):ay Vc 5 27 [.ptr 0 0,.ss k] (mkH (bF (spO c) 0)) 5 (gz SpB (kK X k) (.sb (X.K k).isSome)):=by
 have d:=a.has k;have j:c.x.w<900000:=by have:=a.xw;have:=a.n9;omega
 have p:c.g.length<=1000:=Y7 a.gl a.n9;cases f:X.K k with
 |none=>
  rw[f]at d;have e:kK X k=X:=by unfold kK;rw[f];rfl
  have e0:aG c.x.A k=none:=by cases q:aG c.x.A k with
   |none=>rfl
   |some y=>rw[q]at d;cases d
  have r:(⟨du c.x.A k,c.x.w⟩:Ix)=c.x:=by rw[qc e0]
  rw[e]
  conv=>whnf
  refine⟨2,c.px,c.x,[.ss k],c.x,.sb false,_,rfl,by decide,by decide,.cons .same .nil,rfl,rfl,⟨k,rfl,j,r.symm,congrArg AV.sb d.symm⟩,?_⟩
  conv=>whnf
  refine ah.nsb (λz=>?_) (λz=>?_)
  focus
   conv=>whnf
   exact⟨_,c,.told rfl,a,bQ rfl rfl rfl rfl rfl⟩
  cases z
 |some y=>
  rw[f]at d;obtain⟨u,l,o,v,s,B,t⟩:=a.at1 f;have ok:=a.drop (k:=k) (by rw[f];rfl);have i:aJ (c.m.del k).A=aJ l++aJ o:=by rw[a.YH s];unfold aJ;rw[q0m]
  conv=>whnf
  refine⟨2,c.px,c.x,[.ss k],⟨du c.x.A k,c.x.w⟩,.sb true,_,rfl,by decide,by decide,.cons .same .nil,rfl,rfl,⟨k,rfl,j,rfl,congrArg AV.sb d.symm⟩,?_⟩
  conv=>whnf
  refine ah.nsb (λz=>?_) (λz=>?_)
  focus
   cases z
  conv=>whnf
  refine Ask.mk _ (um (m:=c.m) (g:=gE) (k:=k) bP nT rfl rfl rfl) ?_
  conv=>whnf
  refine⟨3,c.pg,c.g,[.ss k],u5 c.g k,_,_,rfl,by decide,by decide,.cons .same .nil,rfl,rfl,⟨k,rfl,p,rfl,rfl⟩,?_⟩
  conv=>whnf
  exact⟨_,{c with m:=c.m.del k,x:=⟨du c.x.A k,c.x.w⟩,g:=u5 c.g k},.YG (b:=4) (A:=aJ l) (C:=aJ o) (congrArg (λx=>some (AO.sep (aI x))) t) rfl,ok,bQ rfl rfl rfl rfl (congrArg (λx=>some (AO.sep (aI x))) i.symm)⟩
theorem YI:∀X cs a v,Rp X cs a v->cs.all gy=true/\gy v=true/\∀c,SpB.ok X c->ay Vc 5 27 (.ptr 0 0::cs) (mkH (bF (SpB.O c) 0)) 5 (gz SpB a v):=λX cs a v ⟨k,d,e,f⟩=>by
 subst d e f;exact⟨rfl,rfl,λc g=>GL X k c g⟩
theorem ED:ai 27 (cL 5 SpB Rp):=gA Rq 5 (by kernel_rfl) SpB rfl (by decide) YI
def crK(X:SpV)(k:Tx)(y:fF):SpV:={X with K:=λx=>if x=k then some y else X.K x,n:=X.n+1}
def crF (X:SpV) (k:Tx) (z ret pol:Int) (l:List Lab):SpV×Int:=match qj z ret pol with
 |none=>(X,1)
 |some S=>if(iK k&&dS l)=true then(if(X.K k).isSome=true then(X,6)else(crK X k ⟨S,[],z,cj l⟩,0))else(X,1)
def GM(z ret pol:Int)(l:List Lab):AV:= .agg [.si .i64 z,.si .i64 ret,.si .i64 pol,gL l]
def Rr(X:SpV)(cs:List AV)(a:SpV)(v:AV):Prop:=∃k z ret pol l Y,cs=[.ss k,GM z ret pol l]/\l.length<=1000/\X.n<1000/\crF X k z ret pol l=Y/\a=Y.1/\v= .si .i64 Y.2
def Rs:FuncId->EP:=bg 46 [] (aq 104 BN (aq 84 (dL 4 IxB KS) (aq 107 (cL 4 IxB UL) (aq 105 (cW Eo) (aq 106 (cW UG) (aq 108 OD evP))))))
theorem IV:aW Rs:=aw (ae (ae (ae (ae (ae (ae az U4) WY) IC) IH) s8) Uv) (by kernel_rfl) (by kernel_rfl)
theorem uw{m:MpC Tx SE}{k:Tx}(h:aG m.A k=none)(E:SE):(m.put k E).A=m.A++ [(k,E)]:=by
 unfold aG at h;rw[q4c]at h;unfold MpC.put;rw[h]
theorem Rt{V:Type}{A:List (Tx×V)}{k:Tx}{q:Bool}(h:(aG A k).isSome=q)(a:q=false):aG A k=none:=by
 cases e:aG A k with
 |none=>rfl
 |some y=>rw[e,a]at h;cases h
theorem bE.create{X:SpV}{c:SpC}(h:bE X c){k:Tx}(e:X.K k=none)(hn:X.n<1000){p:Nat×Nat}{S:Sr}{z:Int}{l:List Lab}(ho:iI S [])(b:iK k=true)(i:dS l=true):bE (crK X k ⟨S,[],z,cj l⟩) {c with m:=c.m.put k ⟨p,S,[],z⟩,x:=⟨eg (du c.x.A k) k (cj l),c.x.w+8⟩}/\aJ (c.m.put k ⟨p,S,[],z⟩).A=aJ c.m.A++ [cq p S []]:=by
 have e0:aG c.x.A k=none:=Rt (h.has k) (by rw[e];rfl);have f:=uw (h.no1 e) ⟨p,S,[],z⟩;have d:du c.x.A k=c.x.A:=qc e0;have j:=h.ml;have r:=h.xl;have s:=h.xw;have t:=h.gl;refine⟨⟨h.o.put k _,?_,h.gk,?_,?_,?_,?_,?_,λx=>?_,λx=>?_,h.R,h.dst,λx y a=>?_,λx y a=>?_,h.rul⟩,?_⟩
 ·show((eg (du c.x.A k) k (cj l)).map Prod.fst).Nodup;rw[d];exact tk h.xk _ _
 ·show X.n+1<=1000;omega
 ·show(c.m.put k _).A.length<=X.n+1;rw[f,Z5];show _+1<=_;omega
 ·show(eg (du c.x.A k) k (cj l)).length<=X.n+1;rw[d];have:=tm c.x.A k (cj l);omega
 ·show c.x.w+8<=8*(X.n+1);omega
 ·show c.g.length<=X.n+1;omega
 ·show(aG (c.m.put k _).A x).map pI=((crK X k ⟨S,[],z,cj l⟩).K x).map GI;rw[x9 h.o];by_cases q:x=k
  ·subst q;simp[crK,pI,GI]
  ·simp[crK,q,h.K x]
 ·show aG (eg (du c.x.A k) k (cj l)) x=((crK X k ⟨S,[],z,cj l⟩).K x).map fF.lab;rw[d,m6 h.xk];by_cases q:x=k
  ·subst q;simp[crK]
  ·simp[crK,q,h.I x]
 ·simp only[crK]at a;by_cases q:x=k
  ·rw[if_pos q]at a;injection a with a;subst a;exact ho
  ·rw[if_neg q]at a;exact h.ser x y a
 ·simp only[crK]at a;by_cases q:x=k
  ·subst q;exact b
  ·rw[if_neg q]at a;exact h.key x y a
 ·rw[f];unfold aJ;rw[q0m];rfl
theorem B5(X:SpV)(k:Tx)(z ret pol:Int)(l:List Lab)(c:SpC)(d:bE X c)(s:l.length<=1000)(hn:X.n<1000){Y:SpV×Int}(a:crF X k z ret pol l=Y):ay Rs 5 46 [.ptr 0 0,.ss k,GM z ret pol l] (mkH (bF (spO c) 0)) 5 (gz SpB Y.1 (.si .i64 Y.2)):=by
 obtain⟨t,B⟩:=Y;have D:=d.has k;have E:c.x.w<800000:=by have:=d.xw;have:=d.n9;omega
 unfold crF at a
 have no:∀u H n,(X,(1:Int))=(t,B)->u=AV.int .i64 1->H.get 0=some (.cells [.map 1,aA c.px,aA c.pg] true)->H.get 1=some (c.m.O kT gE)->H.get 2=some (.sep (IxB.Q c.x c.px))->H.get 3=some (.sep (GrB.Q c.g c.pg))->H.get 4=some (.sep (aI (aJ c.m.A)))->gz SpB t (.si .i64 B) u H n:=λu H n e f F G I J L=>by
  injection e with e3 e4;subst f e3 e4;exact⟨_,c,.told rfl,d,bQ F G I J L⟩
 cases o:qj z ret pol with
 |none=>
  rw[o]at a
  conv=>whnf
  refine⟨z,ret,pol,none,rfl,rfl,rfl,⟨by decide,rfl,rfl,rfl,rfl⟩,o,?_⟩
  conv=>whnf
  exact no _ _ _ a rfl rfl rfl rfl rfl rfl
 |some S=>
  rw[o]at a;dsimp only at a
  conv=>whnf
  refine⟨z,ret,pol,some S,rfl,rfl,rfl,⟨by decide,rfl,rfl,rfl,rfl⟩,o,λp ho=>?_⟩
  conv=>whnf
  refine⟨_,_,_,.cons .same .nil,⟨k,rfl,rfl⟩,?_⟩
  conv=>whnf
  refine ah.nsb (λh=>?_) (λh=>?_)
  focus
   rw[if_neg (by rw[h];simp)]at a
   conv=>whnf
   exact no _ _ _ a rfl rfl rfl rfl rfl rfl
  conv=>whnf
  refine⟨_,_,_,.cons .same .nil,⟨l,rfl,s,rfl⟩,?_⟩
  conv=>whnf
  refine ah.nsb (λz2=>?_) (λz2=>?_)
  focus
   rw[if_neg (by rw[z2];simp)]at a
   conv=>whnf
   exact no _ _ _ a rfl rfl rfl rfl rfl rfl
  rw[if_pos (by rw[h,z2];rfl)]at a
  conv=>whnf
  refine⟨2,c.px,c.x,[.ss k],.sb (X.K k).isSome,rfl,by decide,by decide,.cons .same .nil,rfl,rfl,⟨k,rfl,congrArg AV.sb D.symm⟩,?_⟩
  conv=>whnf
  refine ah.sb (λi=>?_) (λi=>?_)
  focus
   rw[if_pos i]at a;injection a with e f;subst e f
   conv=>whnf
   exact⟨_,c,.told rfl,d,bQ rfl rfl rfl rfl rfl⟩
  rw[if_neg (by rw[i];simp)]at a;injection a with e f;subst e f
  have M:X.K k=none:=by cases q:X.K k with
   |none=>rfl
   |some y=>rw[q]at i;cases i
  obtain⟨ok,r⟩:=d.create (p:=p) (z:=z) M hn ho h z2;have j:mu c.x k l=(⟨eg (du c.x.A k) k (cj l),c.x.w+8⟩,.si .i64 0):=by unfold mu;rw[if_pos (by rw[h,z2];rfl)]
  conv=>whnf
  refine Ask.mk _ (rD (m:=c.m) (g:=gE) (v:=⟨p,S,[],z⟩) (k:=k) bP nT rfl rfl rfl rfl) ?_
  conv=>whnf
  refine⟨2,c.px,c.x,[.ss k,gL l],_,_,_,rfl,by decide,by decide,.cons .same (.cons .same .nil),rfl,rfl,⟨k,l,_,rfl,s,E,j,rfl,rfl,rfl⟩,?_⟩
  conv=>whnf
  exact⟨_,{c with m:=c.m.put k ⟨p,S,[],z⟩,x:=⟨eg (du c.x.A k) k (cj l),c.x.w+8⟩},.IU (b:=4) (m:=6) (A:=aJ c.m.A) (C:=[]) (by decide) (by decide) (congrArg (λx=>some (AO.sep (aI x))) (q0z _).symm) rfl rfl,ok,bQ rfl rfl rfl rfl (congrArg (λx=>some (AO.sep (aI x))) r.symm)⟩
theorem YJ:∀X cs a v,Rr X cs a v->cs.all gy=true/\gy v=true/\∀c,SpB.ok X c->ay Rs 5 46 (.ptr 0 0::cs) (mkH (bF (SpB.O c) 0)) 5 (gz SpB a v):=λX cs a v ⟨k,z,ret,pol,l,Y,b,d,e,f,g,h⟩=>by
 subst b g h;exact⟨rfl,rfl,λc i=>B5 X k z ret pol l c i d e f⟩
theorem yq:ai 46 (cL 5 SpB Rr):=gA IV 5 (by kernel_rfl) SpB rfl (by decide) YJ
def vj (X:SpV) (k:Tx) (ret pol:Int) (l:List Lab):SpV×Int:=match X.K k with
 |none=>(X,5)
 |some e=>if dS l=true then(if(jU e.S e.L ret pol).2≠0 then(X,(jU e.S e.L ret pol).2)else(crK X k ⟨(jU e.S e.L ret pol).1.1,(jU e.S e.L ret pol).1.2,e.z,cj l⟩,0))else(X,1)
def Xl(X:SpV)(cs:List AV)(a:SpV)(v:AV):Prop:=∃k ret pol l Y,cs=[.ss k,.si .i64 ret,.si .i64 pol,gL l]/\l.length<=1000/\X.n<1000/\Bnd X 40000/\vj X k ret pol l=Y/\a=Y.1/\v= .si .i64 Y.2
theorem OK{S S':Sr}{L a:Smp}{r p e:Int}(h:jU S L r p=((S',a),e))(b:e≠0):S'=S/\a=L:=by
 unfold jU at h;split at h
 all_goals(injection h with h1 h2;injection h1 with c d;first|exact⟨c.symm,d.symm⟩|exact absurd h2.symm b)
theorem OL(X:SpV)(k:Tx)(e y:fF):crK (fX X k e) k y=crK X k y:=by
 unfold crK fX;congr 1;funext x;dsimp only;split<;>rfl
theorem bE.Xm{X:SpV}{c:SpC}(h:bE X c){k:Tx}{e:fF}(b:X.K k=some e)(hn:X.n<1000){l:List Lab}:bE (crK X k {e with lab:=cj l}) {c with x:=⟨eg (du c.x.A k) k (cj l),c.x.w+8⟩}:=by
 have d:=h.ml;have f:=h.xl;have i:=h.xw;have j:=h.gl;have p:=pK c.x.A k;refine⟨h.o,?_,h.gk,?_,?_,?_,?_,?_,λx=>?_,λx=>?_,h.R,h.dst,λx y a=>?_,λx y a=>?_,h.rul⟩
 ·exact tk (tj h.xk k) _ _
 ·show X.n+1<=1000;omega
 ·show c.m.A.length<=X.n+1;omega
 ·show(eg (du c.x.A k) k (cj l)).length<=X.n+1;have:=tm (du c.x.A k) k (cj l);omega
 ·show c.x.w+8<=8*(X.n+1);omega
 ·show c.g.length<=X.n+1;omega
 ·show(aG c.m.A x).map pI=((crK X k {e with lab:=cj l}).K x).map GI;rw[h.K];by_cases q:x=k
  ·subst q;simp[crK,b,GI]
  ·simp[crK,q]
 ·show aG (eg (du c.x.A k) k (cj l)) x=((crK X k {e with lab:=cj l}).K x).map fF.lab;rw[m6 (tj h.xk k),qh h.xk];by_cases q:x=k
  ·subst q;simp[crK]
  ·simp[crK,q,h.I x]
 ·simp only[crK]at a;by_cases q:x=k
  ·rw[if_pos q]at a;injection a with a;subst a;exact h.ser k e b
  ·rw[if_neg q]at a;exact h.ser x y a
 ·simp only[crK]at a;by_cases q:x=k
  ·subst q;exact h.key x e b
  ·rw[if_neg q]at a;exact h.key x y a
theorem EE(X:SpV)(k:Tx)(ret pol:Int)(l:List Lab)(c:SpC)(b:bE X c)(u:l.length<=1000)(hn:X.n<1000)(C:Bnd X 40000){Y:SpV×Int}(a:vj X k ret pol l=Y):ay Rs 5 47 [.ptr 0 0,.ss k,.si .i64 ret,.si .i64 pol,gL l] (mkH (bF (spO c) 0)) 5 (gz SpB Y.1 (.si .i64 Y.2)):=by
 obtain⟨D,P⟩:=Y;have j:=b.has k;have E:c.x.w<800000:=by have:=b.xw;have:=b.n9;omega
 unfold vj at a;cases d:X.K k with
 |none=>
  rw[d]at j a;injection a with e1 e2;subst e1 e2
  conv=>whnf
  refine⟨2,c.px,c.x,[.ss k],.sb false,rfl,by decide,by decide,.cons .same .nil,rfl,rfl,⟨k,rfl,congrArg AV.sb j.symm⟩,?_⟩
  conv=>whnf
  refine ah.nsb (λz=>?_) (λz=>?_)
  focus
   conv=>whnf
   exact⟨_,c,.told rfl,b,bQ rfl rfl rfl rfl rfl⟩
  cases z
 |some e=>
  rw[d]at j a;dsimp only at a;obtain⟨o,F,G,v,r,H,I⟩:=b.at1 d;have J:=C k e d
  conv=>whnf
  refine⟨2,c.px,c.x,[.ss k],.sb true,rfl,by decide,by decide,.cons .same .nil,rfl,rfl,⟨k,rfl,congrArg AV.sb j.symm⟩,?_⟩
  conv=>whnf
  refine ah.nsb (λz=>?_) (λz=>?_)
  focus
   cases z
  conv=>whnf
  refine⟨_,_,_,.cons .same .nil,⟨l,rfl,u,rfl⟩,?_⟩
  conv=>whnf
  refine ah.nsb (λz2=>?_) (λz2=>?_)
  focus
   rw[if_neg (by rw[z2];simp)]at a;injection a with e1 e2;subst e1 e2
   conv=>whnf
   exact⟨_,c,.told rfl,b,bQ rfl rfl rfl rfl rfl⟩
  rw[if_pos z2]at a;obtain⟨Z,s⟩:∃Z,Z=jU e.S e.L ret pol:=⟨_,rfl⟩;rw[<-s]at a;obtain⟨⟨f,h⟩,M⟩:=Z;dsimp only at a
  conv=>whnf
  refine Ask.mk _ (bd (m:=c.m) (g:=gE) (k:=k) bP nT rfl rfl rfl qn v) ?_
  conv=>whnf
  refine⟨4,aJ F,aJ G,o,e.S,e.L,ret,pol,f,h,M,rfl,by decide,by decide,rfl,congrArg (λx=>some (AO.sep (aI x))) I,rfl,rfl,J,s.symm,λho=>?_⟩;obtain⟨t,y,B⟩:=b.ym d v r H ho
  conv=>whnf
  refine ah.di (λp=>?_) (λp=>?_)
  focus
   rw[if_pos p]at a;injection a with e1 e2;subst e1 e2
   have N:fX X k {e with S:=f,L:=h}=X:=by
    obtain⟨r,O⟩:f=e.S/\h=e.L:=OK s.symm p;rw[r,O];exact BY d
   rw[N]at t
   conv=>whnf
   exact⟨_,{c with m:=c.m.put k ⟨o,f,h,e.z⟩},.told rfl,t,bQ rfl (congrArg some y.symm) rfl rfl (congrArg (λx=>some (AO.sep (aI x))) B.symm)⟩
  rw[if_neg (λq=>q p)]at a;injection a with e1 e2;have ok:=t.Xm (k:=k) (e:={e with S:=f,L:=h}) (by rw[fh,if_pos rfl]) hn (l:=l);rw[OL]at ok;have ok:bE D {c with m:=c.m.put k ⟨o,f,h,e.z⟩,x:=⟨eg (du c.x.A k) k (cj l),c.x.w+8⟩}:=by rw[<-e1];exact ok
  subst e2;have i:mu c.x k l=(⟨eg (du c.x.A k) k (cj l),c.x.w+8⟩,.si .i64 0):=by unfold mu;rw[if_pos (by rw[b.key _ _ d,z2];rfl)]
  conv=>whnf
  refine⟨2,c.px,c.x,[.ss k,gL l],_,_,_,rfl,by decide,by decide,.cons .same (.cons .same .nil),rfl,rfl,⟨k,l,_,rfl,u,E,i,rfl,rfl,rfl⟩,?_⟩
  conv=>whnf
  exact⟨_,{c with m:=c.m.put k ⟨o,f,h,e.z⟩,x:=⟨eg (du c.x.A k) k (cj l),c.x.w+8⟩},.told rfl,ok,bQ rfl (congrArg some y.symm) rfl rfl (congrArg (λx=>some (AO.sep (aI x))) B.symm)⟩
theorem K6:ai 47 (cL 5 SpB Xl):=gA IV 5 (by kernel_rfl) SpB rfl (by decide) λX cs j v ⟨k,ret,pol,l,Y,a,b,d,e,f,g,h⟩=>by
 subst a g h;exact⟨rfl,rfl,λc i=>EE X k ret pol l c i b d e f⟩
def rlF (X:SpV) (r:Rl):SpV×Int:=
 if cS r=true then(if(X.K r.src).isSome=true/\(X.K r.dst).isSome=true then(if(X.R r.dst).isSome=true then(X,6)else if(X.R r.src).isSome=true∨0<(ofX X r.dst).length then(X,10)else({qo X r.dst (some r)with n:=X.n+1},0))else(X,5))else(X,1)
def Vd(X:SpV)(cs:List AV)(a:SpV)(v:AV):Prop:=∃r Y,cs=[gR r]/\X.n<1000/\rlF X r=Y/\a=Y.1/\v= .si .i64 Y.2
def Ve:FuncId->EP:=bg 38 [] (aq 89 (cW UQ) (cV 84 (dL 4 IxB KS) (aq 90 (cL 2 GrB SJ) evP)))
theorem Ru:aW Ve:=aw (ae (ba (ae az Rd) s8 (Gs _ _ _)) W6) (by kernel_rfl) (by kernel_rfl)
theorem Vf{X:SpV}{c:SpC}(h:bE X c){r:Rl}(a:cS r=true):BU c.g r=(if(X.R r.dst).isSome=true then(c.g,.si .i64 6)else if(X.R r.src).isSome=true∨0<(ofX X r.dst).length then(c.g,.si .i64 10)else(eg c.g r.dst r,.si .i64 0)):=by
 unfold BU;rw[if_neg (by rw[a];simp),h.R,h.R,h.of]
theorem B6(X:SpV)(r:Rl)(c:SpC)(a:bE X c)(hn:X.n<1000){Y:SpV×Int}(b:rlF X r=Y):ay Ve 5 38 [.ptr 0 0,gR r] (mkH (bF (spO c) 0)) 5 (gz SpB Y.1 (.si .i64 Y.2)):=by
 obtain⟨G,H⟩:=Y;have u:=a.has r.src;have v:=a.has r.dst;have l:c.g.length<=1000:=Y7 a.gl a.n9;unfold rlF at b
 conv=>whnf
 refine⟨_,_,_,.cons .same .nil,⟨r,rfl,rfl⟩,?_⟩
 conv=>whnf
 refine ah.nsb (λk=>?_) (λk=>?_)
 focus
  rw[if_neg (by rw[k];simp)]at b;injection b with f h;subst f h
  conv=>whnf
  exact⟨_,c,.told rfl,a,bQ rfl rfl rfl rfl rfl⟩
 rw[if_pos k]at b
 conv=>whnf
 refine⟨2,c.px,c.x,[.ss r.src],.sb (X.K r.src).isSome,rfl,by decide,by decide,.cons .same .nil,rfl,rfl,⟨r.src,rfl,congrArg AV.sb u.symm⟩,?_⟩
 conv=>whnf
 refine ah.nsb (λz2=>?_) (λz2=>?_)
 focus
  rw[if_neg (λq=>by rw[z2]at q;cases q.1)]at b;injection b with f h;subst f h
  conv=>whnf
  exact⟨_,c,.told rfl,a,bQ rfl rfl rfl rfl rfl⟩
 conv=>whnf
 refine⟨2,c.px,c.x,[.ss r.dst],.sb (X.K r.dst).isSome,rfl,by decide,by decide,.cons .same .nil,rfl,rfl,⟨r.dst,rfl,congrArg AV.sb v.symm⟩,?_⟩
 conv=>whnf
 refine ah.nsb (λp=>?_) (λp=>?_)
 focus
  rw[if_neg (λq=>by rw[p]at q;cases q.2)]at b;injection b with f h;subst f h
  conv=>whnf
  exact⟨_,c,.told rfl,a,bQ rfl rfl rfl rfl rfl⟩
 rw[if_pos ⟨z2,p⟩]at b;have i:=Vf a k
 conv=>whnf
 by_cases s:(X.R r.dst).isSome=true
 ·rw[if_pos s]at b i;injection b with f h;subst f h;refine⟨3,c.pg,c.g,[gR r],_,_,_,rfl,by decide,by decide,.cons .same .nil,rfl,rfl,⟨r,_,rfl,l,i,rfl,rfl,rfl⟩,?_⟩
  conv=>whnf
  exact⟨_,c,.told rfl,a,bQ rfl rfl rfl rfl rfl⟩
 ·rw[if_neg s]at b i;by_cases t:(X.R r.src).isSome=true∨0<(ofX X r.dst).length
  ·rw[if_pos t]at b i;injection b with f h;subst f h;refine⟨3,c.pg,c.g,[gR r],_,_,_,rfl,by decide,by decide,.cons .same .nil,rfl,rfl,⟨r,_,rfl,l,i,rfl,rfl,rfl⟩,?_⟩
   conv=>whnf
   exact⟨_,c,.told rfl,a,bQ rfl rfl rfl rfl rfl⟩
  ·rw[if_neg t]at b i;injection b with f h;subst f h
   have ok:bE {qo X r.dst (some r)with n:=X.n+1} {c with g:=eg c.g r.dst r}:=by
    have z:=a.ml;have B:=a.xl;have C:=a.xw;have D:=a.gl;have E:=tm c.g r.dst r;refine⟨a.o,a.xk,tk a.gk _ _,?_,?_,?_,?_,?_,a.K,a.I,λd=>?_,λe F=>?_,a.ser,a.key,λd y j=>?_⟩
    ·show X.n+1<=1000;omega
    ·show c.m.A.length<=X.n+1;omega
    ·show c.x.A.length<=X.n+1;omega
    ·show c.x.w<=8*(X.n+1);omega
    ·show(eg c.g r.dst r).length<=X.n+1;omega
    ·show aG (eg c.g r.dst r) d=if d=r.dst then some r else X.R d
     rw[m6 a.gk,a.R]
    ·have:=cT (tk a.gk r.dst r) (show(e.1,e.2)∈eg c.g r.dst r from F);rw[m6 a.gk]at this;split at this
     ·rename_i q;injection this with this;rw[q,<-this]
     ·exact a.dst e (bM this)
    ·have j:(if d=r.dst then some r else X.R d)=some y:=j;split at j
     ·injection j with j;subst j;exact k
     ·exact a.rul d y j
   refine⟨3,c.pg,c.g,[gR r],_,_,_,rfl,by decide,by decide,.cons .same .nil,rfl,rfl,⟨r,_,rfl,l,i,rfl,rfl,rfl⟩,?_⟩
   conv=>whnf
   exact⟨_,{c with g:=eg c.g r.dst r},.told rfl,ok,bQ rfl rfl rfl rfl rfl⟩
theorem YK:∀X cs a v,Vd X cs a v->cs.all gy=true/\gy v=true/\∀c,SpB.ok X c->ay Ve 5 38 (.ptr 0 0::cs) (mkH (bF (SpB.O c) 0)) 5 (gz SpB a v):=λX cs a v ⟨r,Y,b,d,e,f,g⟩=>by
 subst b f g;exact⟨rfl,rfl,λc h=>B6 X r c h d e⟩
theorem GN:ai 38 (gT 5 SpB Vd):=u4 (ax Ru 5 _) (by kernel_rfl) SpB rfl (by decide) YK
def u7(B:Smp->List AV->Smp->Prop)(args:List AV)(H:AH)(n:Nat)(κ:PK):Prop:=match args with
 |x::a=>∃(b:Nat) (A C:List HP) (p:Nat×Nat) (S:Sr) (L O:Smp),x=aA p/\b<n/\n<700000/\ic H 5 n=true/\H.get b=some (.sep (aI (A++cq p S L::C)))/\B L a O/\κ (.fr O.length 2 (smp O)) H (n+5)
 |_=>False
theorem GO(B:Smp->List AV->Smp->Prop):iG (u7 B):=λargs H n l a=>by
 unfold u7 at*;split at a
 ·obtain⟨b,A,C,p,S,L,O,c,d,e,f,g,i,j⟩:=a;exact⟨_,_,_,j,λ_ _ h=>h,q0u _ _,λk h=>⟨b,A,C,p,S,L,O,c,d,e,f,g,i,h⟩⟩
 ·exact a.elim
theorem ai.qf{f:FuncId}{B:Smp->List AV->Smp->Prop}(h:ai f (yn B)):ai f (u7 B):=λargs H n κ c F t G I K J a M=>by
 unfold u7 at c;split at c
 ·rename_i x N;obtain⟨b,A,C,p,S,L,O,P,Q,R,v,T,U,V⟩:=c;refine h (x::N) H n (λu D E=>u= .rw (n+4) 0 O.length 2 0/\D=H.set (some (.cells (smp O) true)) aa (n+4)/\E=n+5) ⟨b,A,C,p,S,L,O,P,Q,R,v,T,U,rfl,rfl,rfl⟩ F t G I K J a λW u D E w g d X Y ⟨Z,e2,e3⟩=>?_
  subst Z e2 e3;obtain⟨χ,l,i,j⟩:=Re.row (x:=0) (z:=true) (H:=H.set (some (.cells (smp O) true)) aa (n+4)) (b:=n+4) (m:=O.length) (k:=2) (l:=smp O) (s:=smp O) (PM.geq (by omega)) (bI O) (bh O) rfl (by decide) W t g w X Y
  refine M χ _ H _ w g (d.trans l) (i.less λy o r=>?_) j V;have q:y≠n+4:=λe=>by subst e;rw[eO (k:=4) v (by decide)]at r;cases r
  exact PM.gne (by omega) q (PM.gne (by omega) q r)
 ·exact c.elim
theorem OM:ai 21 (u7 Ee):=SL.qf
def cM(r:Rl)(s:Int×SpV)(x:Int×Int):Int×SpV:=if s.1<bB r x.1 then(bB r x.1,cm s.2 r (bB r x.1))else s
def tn(r:Rl)(X:SpV)(L:Smp):Int×SpV:=L.foldl (cM r) (-1,X)
theorem K7{r:Rl}{X:SpV}{L:Smp}{i:Nat}(h:i<L.length):tn r X (L.take (i+1))=cM r (tn r X (L.take i)) L[i]:=by
 unfold tn;rw[Y8 h,q2s];rfl
theorem nV{r:Rl}{k:Tx}:∀(L:Smp) {s:Int×SpV} {b:Nat},Bnd s.2 b→-1<=s.1->(L.foldl (cM r) s).2.R=s.2.R/\(L.foldl (cM r) s).2.n=s.2.n/\(∀x,((L.foldl (cM r) s).2.K x).isSome=(s.2.K x).isSome)/\(∀x,x≠r.dst->(L.foldl (cM r) s).2.K x=s.2.K x)/\Bnd (L.foldl (cM r) s).2 (b+L.length)∧-1<=(L.foldl (cM r) s).1
 | [],s,b,c,d=>⟨rfl,rfl,λ_=>rfl,λ_ _=>rfl,c,d⟩
 |x::L,s,b,c,d=>by
  rw[List.foldl_cons];have p:=jE (t:=x.1) (s:=r.size) (a:=r.align);by_cases q:s.1<bB r x.1
  ·have e:cM r s x=(bB r x.1,cm s.2 r (bB r x.1)):=if_pos q;rw[e];obtain⟨f,g,h,i,j,l⟩:=nV (k:=k) L (s:=(bB r x.1,cm s.2 r (bB r x.1))) (m7 c) (by show-1<=bB r x.1;unfold bB;omega);refine⟨f.trans je.1,g.trans je.2,λy=>(h y).trans jz,λy m=>(i y m).trans (jf m),?_,l⟩;rw[Z9,show b+(L.length+1)=b+1+L.length by omega];exact j
  ·have e:cM r s x=s:=if_neg q;rw[e];obtain⟨f,g,h,i,j,l⟩:=nV (k:=k) L c d;exact⟨f,g,h,i,λy z o=>by have:=j y z o;rw[Z9];omega,l⟩
def ON(X:SpV)(cs:List AV)(a:SpV)(v:AV):Prop:=∃r L,cs=[gR r,.fr L.length 2 (smp L)]/\L.length<=5000/\r.src≠r.dst/\(X.K r.src).isSome=true/\(X.K r.dst).isSome=true/\Bnd X 25000/\a=(tn r X L).2/\v= .tup []
def Xn:FuncId->EP:=bg 102 [] (aq 75 (gT 5 SpB U7) (cV 54 (wU gv) evP))
theorem Rv:aW Xn:=aw (ae (ba az A0 Dd) OG) (by kernel_rfl) (by kernel_rfl)
def alL (c:SpC) (r:Rl) (L:Smp) (i:Nat) (last:Int):AE×AH:=(mkE [(0,.ptr 0 (0)),(4,.ptr 5 (0)),(6,.si .i64 (last)),(10,.fr L.length 2 (smp L)),(11,.si .i64 ((L.length:Int))),(12,.si .i64 ((i:Int)))],mkH [(0,.cells [.map 1,aA c.px,aA c.pg] true),(1,c.m.O kT gE),(2,.sep (IxB.Q c.x c.px)),(3,.sep (GrB.Q c.g c.pg)),(4,.sep (aI (aJ c.m.A))),(5,.cells (ruC r) true)])
theorem K8(X:SpV)(r:Rl)(L:Smp)(c:SpC)(D:bE X c)(R:L.length<=5000)(E:r.src≠r.dst)(F:(X.K r.src).isSome=true)(hd:(X.K r.dst).isSome=true)(G:Bnd X 25000):ay Xn 6 102 [.ptr 0 0,gR r,.fr L.length 2 (smp L)] (mkH (bF (spO c) 0)) 5 (gz SpB (tn r X L).2 (.tup [])):=by
 conv=>whnf
 refine aQ.mk {w:Nat×SpC×Int//w.1<=L.length/\bE (tn r X (L.take w.1)).2 w.2.1/\w.2.2=(tn r X (L.take w.1)).1} 6 (λw=>alL w.val.2.1 r L w.val.1 w.val.2.2) (λw=>L.length-w.val.1) ⟨(0,c,-1),Y5 _,D,rfl⟩ ?_ ?_
 focus
  exact Cov.ofN [] ⟨sP,sP,sI,ab.frE rfl,sI,sI,trivial⟩ ⟨oF,oF (al aO fV),oS,oS,oS,oF,trivial⟩
 intro⟨(i,g,j),x,b,a⟩;have x:i<=L.length:=x;obtain⟨Z,l⟩:∃Z,Z=tn r X (L.take i):=⟨_,rfl⟩;have b:bE Z.2 g:=by rw[l];exact b
 have a:j=Z.1:=by rw[l];exact a
 obtain⟨H,I,t,J,A,M⟩:=nV (r:=r) (k:=r.src) (L.take i) (s:=(-1,X)) G (Int.le_refl _);have u:(L.take i).foldl (cM r) (-1,X)=Z:=by rw[l];rfl
 rw[u]at H I t J A M;have B:Bnd Z.2 30000:=λy z N=>Y7 (A y z N) (by rw[q0g];omega)
 have C:IntKind.i64.wrap ((i:Int)+1)=((i+1:Nat):Int):=by rw[aj (by omega) (by omega)];omega
 conv=>whnf
 refine ah.dec (λh=>?_) (λh=>?_)
 focus
  have m:i<L.length:=q0t.1 h;have n:L.length-(i+1)<L.length-i:=by omega
  have sub:=fP m rfl
  have f:=K7 (r:=r) (X:=X) m;rw[<-l]at f;obtain⟨s,o⟩:=q0n.1 (show(Z.2.K r.src).isSome=true by rw[t];exact F);obtain⟨d,p⟩:=q0n.1 (show(Z.2.K r.dst).isSome=true by rw[t];exact hd);have ls:=B _ _ o;have O:=B _ _ p
  conv=>whnf
  refine Idx.mk i rfl m ?_
  conv=>whnf
  refine au sub ?_
  conv=>whnf
  refine ah.dec (λz=>?_) (λz=>?_)
  focus
   have e:cM r Z L[i]=(bB r L[i].1,cm Z.2 r (bB r L[i].1)):=if_pos (by rw[<-a];exact z);rw[e]at f
   conv=>whnf
   refine⟨Z.2,[gR r,.si .i64 (bB r L[i].1)],cm Z.2 r (bB r L[i].1),.tup [],_,g,rfl,by decide,.cons .same (.cons .same .nil),b,uq rfl rfl rfl rfl rfl,⟨r,bB r L[i].1,s,d,rfl,o,p,ls,O,rfl,rfl⟩,λP v=>?_⟩
   conv=>whnf
   exact⟨⟨(i+1,P,bB r L[i].1),m,by rw[f];exact v,by rw[f]⟩,n,Cov.ofN [] ⟨sP,sP,sI,ab.frE rfl,sI,sI (congrArg (AV.si .i64) C),trivial⟩ ⟨oF,oF (al aO fV),oS,oS,oS,oF,trivial⟩⟩
  have e:cM r Z L[i]=Z:=if_neg (by rw[<-a];exact z);rw[e]at f
  conv=>whnf
  exact⟨⟨(i+1,g,j),m,by rw[f];exact b,by rw[f];exact a⟩,n,Cov.ofN [] ⟨sP,sP,sI,ab.frE rfl,sI,sI (congrArg (AV.si .i64) C),trivial⟩ ⟨oF,oF (al aO fV),oS,oS,oS,oF,trivial⟩⟩
 have Q:i=L.length:=by have h:¬(i:Int)<(L.length:Int):=h;omega
 have q:bE (tn r X L).2 g:=by have:=b;rw[l,Q,q0k]at this;exact this
 conv=>whnf
 exact⟨_,g,.told rfl,q,bQ rfl rfl rfl rfl rfl⟩
theorem IW:ai 102 (gT 5 SpB ON):=u4 (ax Rv 6 _) (by kernel_rfl) SpB rfl (by decide) λX cs k v ⟨r,L,a,b,d,e,f,g,h,i⟩=>by
 subst a h i;exact⟨rfl,rfl,λc j=>K8 X r L c j b d e f g⟩
def EF(X:SpV)(k:Tx)(e:fF):SpV:=fX X k {e with L:=aR e.L 0 1099511627776}
def lkF (X:SpV) (r:Rl):SpV×Int:=if(rlF X r).2≠0 then rlF X r else match(rlF X r).1.K r.dst,(rlF X r).1.K r.src with
 |some d,some s=>((tn r (EF (rlF X r).1 r.dst d) (bJ 0 1099511627776 s.L)).2,0)
 |_,_=>rlF X r
def Vg(X:SpV)(cs:List AV)(a:SpV)(v:AV):Prop:=∃r Y,cs=[gR r]/\X.n<1000/\Bnd X 5000/\lkF X r=Y/\a=Y.1/\v= .si .i64 Y.2
def OO:DT:=[(4,[(some 0,[0]),(some 0,[12]),(some 0,[13]),(some 0,[14]),(some 0,[3]),(some 0,[16]),(some 0,[15,17]),(some 0,[18])]),
 (5,[(some 0,[0]),(some 0,[3]),(some 0,[0]),(some 0,[23]),(some 0,[24]),(some 0,[25]),(some 0,[3]),(some 0,[27]),(some 0,[26,28]),(some 0,[29]),(none,[30])])]
def Xo:FuncId->EP:=bg 48 OO (aq 38 (gT 5 SpB Vd) (cV 21 (u7 Ee) (aq 100 Ad (aq 102 (gT 5 SpB ON) evP))))
theorem Rw:aW Xo:=aw (ae (ba (ae (ae az IW) BX) OM (GO _)) GN) (by kernel_rfl) (by kernel_rfl)
theorem Vh{X:SpV}{r:Rl}(h:(rlF X r).2=0):cS r=true/\(X.K r.src).isSome=true/\(X.K r.dst).isSome=true/\(rlF X r).1={qo X r.dst (some r)with n:=X.n+1}:=by
 unfold rlF at*;split at h
 ·rename_i b;rw[if_pos b];split at h
  ·rename_i a;rw[if_pos a];split at h
   ·cases h
   ·rename_i c;rw[if_neg c];split at h
    ·cases h
    ·rename_i d;rw[if_neg d];exact⟨b,a.1,a.2,rfl⟩
  ·cases h
 ·cases h
theorem GP(X:SpV)(r:Rl)(c:SpC)(hc:bE X c)(hn:X.n<1000)(N:Bnd X 5000){Y:SpV×Int}(h:lkF X r=Y):ay Xo 6 48 [.ptr 0 0,gR r] (mkH (bF (spO c) 0)) 5 (gz SpB Y.1 (.si .i64 Y.2)):=by
 obtain⟨Y1,Y2⟩:=Y;have l:=Vh (X:=X) (r:=r);unfold lkF at h;obtain⟨Z,W⟩:∃Z,Z=rlF X r:=⟨_,rfl⟩;rw[<-W]at h l;obtain⟨D,Z2⟩:=Z;dsimp only at h l
 conv=>whnf
 refine⟨X,[gR r],D,.si .i64 Z2,_,c,rfl,by decide,.cons .same .nil,hc,uq rfl rfl rfl rfl rfl,⟨r,_,rfl,hn,W.symm,rfl,rfl⟩,λf o=>?_⟩
 conv=>whnf
 refine ah.di (λI=>?_) (λI=>?_)
 focus
  rw[if_pos I]at h;injection h with e1 e2;subst e1 e2
  conv=>whnf
  exact⟨_,f,.told rfl,o,bQ rfl rfl rfl rfl rfl⟩
 rw[if_neg (λq=>q I)]at h;obtain⟨h1,h2,h3,h4⟩:=l I;have p:D.K=X.K:=by rw[h4];rfl
 obtain⟨s,hs⟩:=q0n.1 h2;obtain⟨d,hd⟩:=q0n.1 h3;have E:D.K r.src=some s:=by rw[p];exact hs
 have t:D.K r.dst=some d:=by rw[p];exact hd
 rw[E,t]at h;dsimp only at h;injection h with e1 e2;subst e1 e2;have F:=m8 h1;have ls:=N _ _ hs;have ld:=N _ _ hd;obtain⟨J,P,Q,g2,a2,u2,q2⟩:=o.at1 t;obtain⟨j,u⟩:∃j,j=aR d.L 0 1099511627776:=⟨_,rfl⟩
 conv=>whnf
 refine Ask.mk _ (bd (m:=f.m) (g:=gE) (k:=r.dst) bP nT rfl rfl rfl qn g2) ?_
 conv=>whnf
 refine⟨4,aJ P,aJ Q,J,d.S,d.L,0,1099511627776,j,_,rfl,by decide,by decide,rfl,congrArg (λx=>some (AO.sep (aI x))) q2,rfl,rfl,by omega,u.symm,rfl,λho=>?_⟩;obtain⟨M,k2,k3⟩:=o.ym t g2 a2 u2 ho;obtain⟨v,w⟩:∃v,v=EF D r.dst d:=⟨_,rfl⟩;have b:fX D r.dst {d with S:=d.S,L:=j}=v:=by rw[w,u];rfl
 rw[b]at M;rw[<-w];obtain⟨e,i⟩:∃e:SpC,e={f with m:=f.m.put r.dst ⟨J,d.S,j,d.z⟩}:=⟨_,rfl⟩;rw[<-i]at M;have G:f.m.O kT gE=e.m.O kT gE:=by rw[i];exact k2.symm
 have B:aJ P++cq J d.S j::aJ Q=aJ e.m.A:=by rw[i];exact k3.symm
 have a:f.px=e.px/\f.pg=e.pg/\f.x=e.x/\f.g=e.g:=by rw[i];exact⟨rfl,rfl,rfl,rfl⟩
 have H:v.K r.src=some s:=by rw[w];unfold EF;rw[fh,if_neg F];exact E
 have R:j.length<=5000:=by rw[u];exact Y7 (q1e _ _) ld
 have T:Bnd v 25000:=λx y C=>by
  rw[<-b,fh]at C;split at C
  ·injection C with C;subst C;exact Y7 R (by decide)
  ·rw[p]at C;exact Y7 (N x y C) (by decide)
 have U:(v.K r.dst).isSome=true:=by rw[<-b,fh,if_pos rfl];rfl
 obtain⟨p1,A1,A2,g1,a1,u1,q1⟩:=M.at1 H;have hO:(PM.set (some (.sep (aI (aJ P++cq J d.S j::aJ Q)))) aa (mkH (bF (spO f) 0)) 4).get 4=some (.sep (aI (aJ e.m.A))):=congrArg (λx=>some (AO.sep (aI x))) B
 conv=>whnf
 refine Ask.mk _ (bd (m:=e.m) (g:=gE) (k:=r.src) bP nT rfl rfl (congrArg some G) qn g1) ?_
 conv=>whnf
 refine⟨4,aJ A1,aJ A2,p1,s.S,s.L,bJ 0 1099511627776 s.L,rfl,by decide,by decide,rfl,congrArg (λx=>some (AO.sep (aI x))) (B.trans q1),⟨_,_,0,1099511627776,rfl,rfl,rfl,rfl⟩,?_⟩
 conv=>whnf
 refine⟨v,[gR r,.fr (bJ 0 1099511627776 s.L).length 2 (smp (bJ 0 1099511627776 s.L))],_,.tup [],_,e,rfl,by decide,.cons .same (.cons .same .nil),M,uq ?_ (congrArg some G) ?_ ?_ (congrArg (λx=>some (AO.sep (aI x))) B),⟨r,bJ 0 1099511627776 s.L,rfl,Y7 (q1e _ _) ls,F,by rw[H];rfl,U,T,rfl,rfl⟩,λc3 V=>?_⟩
 ·rw[<-a.1,<-a.2.1];exact rfl
 ·rw[<-a.1,<-a.2.2.1];exact rfl
 ·rw[<-a.2.1,<-a.2.2.2];exact rfl
 conv=>whnf
 exact⟨_,c3,.told rfl,V,bQ rfl rfl rfl rfl rfl⟩
theorem EG:ai 48 (cL 5 SpB Vg):=gA Rw 6 (by kernel_rfl) SpB rfl (by decide) λX cs i v ⟨r,Y,a,b,d,e,f,g⟩=>by
 subst a f g;exact⟨rfl,rfl,λc h=>GP X r c h b d e⟩
theorem Vi{R:Gr}{so:Rl->Bool}(l:(R.map Prod.fst).Nodup)(hd:∀e∈R,e.2.dst=e.1):((pkF R so).map Rl.dst).Nodup:=by
 have m:=ur (bb ((R.filter λe=>so e.2).map Prod.fst)).1;have n:=ur (bb ((R.filter λe=>so e.2).map λe=>e.2.src)).1
 have f:∀d∈aK ((R.filter λe=>so e.2).map Prod.fst),(rul R d).dst=d:=λd h=>by
  rw[(bb _).2,q0e]at h;obtain⟨e,j,rfl⟩:=h;have c:=cT l (show(e.1,e.2)∈R from(q1b.1 j).1);unfold rul;rw[c];exact hd e (q1b.1 j).1
 have o:∀s,(pkS (aK ((R.filter λe=>so e.2).map Prod.fst)) R s).map Rl.dst=(aK ((R.filter λe=>so e.2).map Prod.fst)).filter λd=>decide ((rul R d).src=s):=λs=>by
  unfold pkS;rw[q4e]
  conv=>rhs;rw[<-List.map_id (List.filter _ _)]
  exact q2y λd g=>f d (q1b.1 g).1
 unfold pkF;rw[List.map_flatMap];have p:(λs=>(pkS (aK ((R.filter λe=>so e.2).map Prod.fst)) R s).map Rl.dst)=λs=>(aK ((R.filter λe=>so e.2).map Prod.fst)).filter λd=>decide ((rul R d).src=s):=funext o
 rw[p];refine List.pairwise_flatMap.2 ⟨λs _=>m.filter _,n.imp λ{a b} i x r y t q=>?_⟩;subst q;have c:=(q1b.1 r).2;have k:=(q1b.1 t).2;simp only[decide_eq_true_eq]at c k;exact i (c.symm.trans k)
theorem bE.Xp{X:SpV}{c:SpC}(h:bE X c)(k:Tx):((ofX X k).map Rl.dst).Nodup:=by
 rw[<-h.of];exact Vi h.gk h.dst
theorem K9{X:SpV}{r:Rl}{t:Int}{e:fF}(h:(cm X r t).K r.dst=some e):∃d,X.K r.dst=some d/\e.L.length<=d.L.length+1:=by
 unfold cm at h;split at h
 ·rename_i s d b a;rw[fh,if_pos rfl]at h;injection h with h;subst h;refine⟨d,a,?_⟩;show(gU r t s d).2.length<=_;unfold gU;split
  ·exact q2n _
  ·split
   ·exact sT _ _ _ _ _
   ·exact Y7 (q1e _ _) (q2n _)
 ·exact⟨e,h,q2n _⟩
theorem EI{r:Rl}:∀(L:Smp) {s:Int×SpV} {e:fF},((L.foldl (cM r) s).2.K r.dst=some e)->∃d,s.2.K r.dst=some d/\e.L.length<=d.L.length+L.length
 | [],s,e,h=>⟨e,h,Z6 _⟩
 |x::L,s,e,h=>by
  obtain⟨d,a,f⟩:=EI L h;rw[Z9];unfold cM at a;split at a
  ·obtain⟨b,c,g⟩:=K9 a;exact⟨b,c,by omega⟩
  ·exact⟨d,a,by omega⟩
def dF(gone:Smp)(X:SpV)(r:Rl):SpV:=(tn r X gone).2
theorem yr{gone:Smp}{b:Nat}:∀(a:List Rl) {X:SpV},(a.map Rl.dst).Nodup->(∀x e,X.K x=some e->e.L.length<=b+gone.length/\(x∈a.map Rl.dst->e.L.length<=b))->(a.foldl (dF gone) X).R=X.R/\(a.foldl (dF gone) X).n=X.n/\(∀x,((a.foldl (dF gone) X).K x).isSome=(X.K x).isSome)/\(∀x,x∉a.map Rl.dst->(a.foldl (dF gone) X).K x=X.K x)/\Bnd (a.foldl (dF gone) X) (b+gone.length)
 | [],X,_,h=>⟨rfl,rfl,λ_=>rfl,λ_ _=>rfl,λx e c=>(h x e c).1⟩
 |r::a,X,nd,h=>by
  rw[q1r,q2u]at nd;obtain⟨m,o,p,i,_,_⟩:=nV (r:=r) (k:=r.src) gone (s:=(-1,X)) (b:=b+gone.length) (λx e c=>(h x e c).1) (Int.le_refl _)
  have t:∀x e,(dF gone X r).K x=some e->e.L.length<=b+gone.length/\(x∈a.map Rl.dst->e.L.length<=b):=λx e c=>by
   by_cases q:x=r.dst
   ·subst q;obtain⟨d,f,j⟩:=EI gone c;have:=(h _ d f).2 (by simp);exact⟨by omega,λq=>absurd q nd.1⟩
   ·have g:X.K x=some e:=(i x q).symm.trans c;obtain⟨f,j⟩:=h x e g;exact⟨f,λu=>j (by rw[q1r];exact Y4 _ u)⟩
  obtain⟨v,w,y,z,A⟩:=yr a nd.2 t;exact⟨v.trans m,w.trans o,λx=>(y x).trans (p x),λx l=>(z x λq=>l (by rw[q1r];exact Y4 _ q)).trans (i x λq=>l (by rw[q];simp)),A⟩
def tp (X:SpV) (k:Tx) (a b:Int):SpV×Int×Int:=if cz X k≠0 then(X,0,cz X k)else match X.K k with
 |none=>(X,0,5)
 |some e=>((ofX X k).foldl (dF (bJ a b e.L)) (fX X k {e with L:=aR e.L a b}),((e.L.length-(aR e.L a b).length:Nat):Int),0)
def B7(X:SpV)(cs:List AV)(c:SpV)(u:AV):Prop:=∃k a b Y,cs=[.ss k,.si .i64 a,.si .i64 b]/\Links X/\Bnd X 5000/\tp X k a b=Y/\c=Y.1/\u= .tup [.si .i64 Y.2.1,.si .i64 Y.2.2]
def Xq:FuncId->EP:=bg 44 [] (bg 101 [] (bg 73 [] (aq 133 (dL 2 GrB Oo) (aq 61 (gT 5 SpB Rh) (cV 21 (u7 Ee) (aq 100 Ad (aq 102 (gT 5 SpB ON) evP)))))))
theorem Rx:aW Xq:=aw (aw (aw (ae (ae (ba (ae (ae az IW) BX) OM (GO _)) BV) Ot) (by kernel_rfl) (by kernel_rfl)) (by kernel_rfl) (by kernel_rfl)) (by kernel_rfl) (by kernel_rfl)
def dlL (c:SpC) (gone:Smp) (L:List Rl) (j:Nat):AE×AH:=(mkE [(2,AV.fn 101 [] [.ptr 5 0,.ptr 11 0]),(13,.fr L.length 5 (ruL L)),(14,.si .i64 ((L.length:Int))),(15,.si .i64 ((j:Int)))],mkH [(0,.cells [.map 1,aA c.px,aA c.pg] true),(1,c.m.O kT gE),(2,.sep (IxB.Q c.x c.px)),(3,.sep (GrB.Q c.g c.pg)),(4,.sep (aI (aJ c.m.A))),(5,.cells [.ptr 0 0] true),(11,.cells [.fr gone.length 2 (smp gone)] true)])
theorem IX{c:SpC}{gone:Smp}{L:List Rl}{j:Nat}{p n:Nat}{σ:AE}{H:AH}(h:p<=17)(i:ab H 17 (λb=>b) (bj (pa 2) σ) (AV.fn 101 [] [.ptr 5 0,.ptr 11 0]))(a:bj (pa 13) σ= .fr L.length 5 (ruL L))(d:mk (bj (pa 14) σ)= .si .i64 ((L.length:Int)))(e:mk (bj (pa 15) σ)= .si .i64 ((j:Int)))(k:H.get 0=some (.cells [.map 1,aA c.px,aA c.pg] true))(l:H.get 1=some (c.m.O kT gE))(o:H.get 2=some (.sep (IxB.Q c.x c.px)))(q:H.get 3=some (.sep (GrB.Q c.g c.pg)))(r:H.get 4=some (.sep (aI (aJ c.m.A))))(s:H.get 5=some (.cells [.ptr 0 0] true))(f:H.get 11=some (.cells [.fr gone.length 2 (smp gone)] true)):Cov p σ H n ((dlL c gone L j).1,(dlL c gone L j).2,17):=
 Cov.ofA h ⟨i,ab.frE a,.int d,.int e,trivial⟩ ⟨.inl ⟨_,k,an.refl rfl⟩,.inl ⟨_,l,an.refl (al aO fV)⟩,.inl ⟨_,o,an.sep _⟩,.inl ⟨_,q,an.sep _⟩,.inl ⟨_,r,an.sep _⟩,.inl ⟨_,s,an.refl rfl⟩,.inl ⟨_,f,an.refl rfl⟩,trivial⟩ rfl
theorem La(X:SpV)(k:Tx)(a b:Int)(c:SpC)(hc:bE X c)(hl:Links X)(hb:Bnd X 5000){Y:SpV×Int×Int}(E:tp X k a b=Y):ay Xq 6 44 [.ptr 0 0,.ss k,.si .i64 a,.si .i64 b] (mkH (bF (spO c) 0)) 5 (gz SpB Y.1 (.tup [.si .i64 Y.2.1,.si .i64 Y.2.2])):=by
 obtain⟨Y1,Y2,Y3⟩:=Y
 conv=>whnf
 refine⟨X,[.ss k],X,_,_,c,rfl,by decide,.cons .same .nil,hc,uq rfl rfl rfl rfl rfl,⟨k,rfl,rfl,rfl⟩,λi f=>?_⟩
 conv=>whnf
 refine ah.di (λF=>?_) (λF=>?_)
 focus
  unfold tp at E;rw[if_pos F]at E;injection E with e1 e2;injection e2 with e2 e3;subst e1 e2 e3
  conv=>whnf
  exact⟨_,i,.told rfl,f,bQ rfl rfl rfl rfl rfl⟩
 have F:cz X k=0:=F;unfold tp at E;rw[if_neg (by rw[F];exact λq=>q rfl)]at E
 have hK:(X.K k).isSome=true:=by
  unfold cz at F;by_cases q:(X.K k).isSome=true
  ·exact q
  ·rw[if_neg q]at F;cases F
 obtain⟨e,N⟩:=q0n.1 hK;rw[N]at E;dsimp only at E;injection E with e1 e2;injection e2 with e2 e3;obtain⟨P,A1,A2,g1,a1,u1,q1⟩:=f.at1 N;have hL:=hb k e N;obtain⟨gone,I⟩:∃gone,gone=bJ a b e.L:=⟨_,rfl⟩;obtain⟨G,u⟩:∃G,G=aR e.L a b:=⟨_,rfl⟩;have hgl:gone.length<=5000:=by rw[I];exact Y7 (q1e _ _) hL
 have hLl:G.length<=5000:=by rw[u];exact Y7 (q1e _ _) hL
 rw[<-I,<-u]at e1;rw[<-u]at e2
 conv=>whnf
 refine Ask.mk _ (bd (m:=i.m) (g:=gE) (k:=k) bP nT rfl rfl rfl qn g1) ?_
 conv=>whnf
 refine⟨4,aJ A1,aJ A2,P,e.S,e.L,gone,rfl,by decide,by decide,rfl,congrArg (λx=>some (AO.sep (aI x))) q1,⟨_,_,a,b,rfl,rfl,rfl,I⟩,?_⟩
 conv=>whnf
 refine Ask.mk _ (bd (m:=i.m) (g:=gE) (k:=k) bP nT rfl rfl rfl qn g1) ?_
 conv=>whnf
 refine⟨4,aJ A1,aJ A2,P,e.S,e.L,a,b,G,_,rfl,by decide,by decide,rfl,congrArg (λx=>some (AO.sep (aI x))) q1,rfl,rfl,by omega,u.symm,rfl,λho=>?_⟩;obtain⟨k1,k2,k3⟩:=f.ym N g1 a1 u1 ho;obtain⟨d,o⟩:∃d,d=ofX X k:=⟨_,rfl⟩;have hR1:ofG i.g k=d:=by rw[o];exact f.of k
 have hnd:(d.map Rl.dst).Nodup:=by rw[o];exact f.Xp k
 rw[<-o]at e1
 have Q:∀r∈d,k≠r.dst/\X.R r.dst=some r/\r.src=k/\r.src≠r.dst:=λr M=>by
  rw[o]at M;obtain⟨m1,T⟩:=f.rF.1 M;have:=m8 (f.rul _ _ m1);exact⟨λq=>this (T.trans q),m1,T,this⟩
 have hlen:d.length<=1000:=by rw[o];exact f.OH k
 have hgg:i.g.length<=1000:=Y7 f.gl f.n9;obtain⟨s,v⟩:∃s,s=fX X k {e with L:=G}:=⟨_,rfl⟩;have k1:bE s {i with m:=i.m.put k ⟨P,e.S,G,e.z⟩}:=by rw[v];exact k1
 rw[<-v]at e1
 have U:Bnd s 5000:=λx y p=>by
  rw[v,fh]at p;split at p
  ·injection p with p;subst p;exact hLl
  ·exact hb x y p
 have V:∀x,(s.K x).isSome=(X.K x).isSome:=λx=>by
  rw[v,fh];by_cases q:x=k
  ·subst q;rw[if_pos rfl,N];rfl
  ·rw[if_neg q]
 obtain⟨t,B⟩:∃t:SpC,t={i with m:=i.m.put k ⟨P,e.S,G,e.z⟩}:=⟨_,rfl⟩;have k2':i.m.O kT gE=t.m.O kT gE:=by rw[B];exact k2.symm
 have k3':aJ A1++cq P e.S G::aJ A2=aJ t.m.A:=by rw[B];exact k3.symm
 have n:t.px=i.px/\t.pg=i.pg/\t.x=i.x/\t.g=i.g:=by rw[B];exact⟨rfl,rfl,rfl,rfl⟩
 rw[<-B]at k1;subst e1 e2 e3
 conv=>whnf
 refine⟨3,i.pg,i.g,[.ss k],.fr d.length 5 (ruL d),rfl,by decide,by decide,.cons .same .nil,rfl,rfl,⟨k,rfl,hgg,by rw[hR1]⟩,?_⟩
 conv=>whnf
 refine aQ.mk {w:Nat×SpC//w.1<=d.length/\bE ((d.take w.1).foldl (dF gone) s) w.2} 17 (λw=>dlL w.val.2 gone d w.val.1) (λw=>d.length-w.val.1) ⟨(0,t),Y5 _,k1⟩ ?_ ?_
 focus
  refine IX (c:=t) (gone:=gone) (L:=d) (j:=0) ?_ ?_ ?_ ?_ ?_ ?_ ?_ ?_ ?_ ?_ ?_ ?_
  ·exact Z6 17
  ·exact ab.ig (k:=17) rfl rfl (Z6 17) (λ_ _=>rfl)
  ·exact rfl
  ·exact rfl
  ·exact rfl
  ·rw[n.1,n.2.1];exact rfl
  ·exact congrArg some k2'
  ·rw[n.1,n.2.2.1];exact rfl
  ·rw[n.2.1,n.2.2.2];exact rfl
  ·exact congrArg (λx=>some (AO.sep (aI x))) k3'
  ·exact rfl
  ·exact rfl
 intro⟨(j,c3),hj,C⟩;have hj:j<=d.length:=hj;obtain⟨H,D⟩:∃H,H=(d.take j).foldl (dF gone) s:=⟨_,rfl⟩;have C:bE H c3:=by rw[D];exact C
 have hw:IntKind.i64.wrap ((j:Int)+1)=((j+1:Nat):Int):=by rw[aj (by omega) (by omega)];omega
 have ndj:((d.take j).map Rl.dst).Nodup:=by rw[q4i];exact hnd.sublist (q4l _ _)
 obtain⟨f1,f2,f3,f4,f5⟩:=yr (gone:=gone) (b:=5000) (d.take j) (X:=s) ndj λx y p=>⟨Y7 (U x y p) (q0u _ _),λ_=>U x y p⟩
 rw[<-D]at f1 f2 f3 f4 f5;have hB3:Bnd H 25000:=λx y p=>Y7 (f5 x y p) (by omega)
 conv=>whnf
 refine ah.dec (λh=>?_) (λh=>?_)
 focus
  have W:j<d.length:=q0t.1 h;have hlt:d.length-(j+1)<d.length-j:=by omega
  obtain⟨r,M⟩:∃r,r=d[j]:=⟨_,rfl⟩;have sub:bq (ruL d) (j*5) 5=some (ruC r):=by rw[M];exact qd W rfl
  obtain⟨m1,T,m3,m4⟩:=Q r (by rw[M];exact q0i W)
  have J:(d.take (j+1)).foldl (dF gone) s=(tn r H gone).2:=by
   rw[Y8 W,q2s,<-D,<-M];rfl
  have hS:(H.K r.src).isSome=true:=by rw[f3,V];exact(hl _ _ T).1
  have hD:(H.K r.dst).isSome=true:=by rw[f3,V];exact(hl _ _ T).2
  conv=>whnf
  refine Idx.mk j rfl W ?_
  conv=>whnf
  refine au sub ?_
  conv=>whnf
  refine⟨H,[gR r,.fr gone.length 2 (smp gone)],_,.tup [],_,c3,rfl,by decide,.cons .same (.cons .same .nil),C,uq rfl rfl rfl rfl rfl,⟨r,gone,rfl,hgl,m4,hS,hD,hB3,rfl,rfl⟩,λc5 hc5=>?_⟩
  conv=>whnf
  exact⟨⟨(j+1,c5),W,by rw[J];exact hc5⟩,hlt,IX (c:=c5) (gone:=gone) (L:=d) (j:=j+1) (Z6 17) (ab.ig (k:=17) rfl rfl (Z6 17) (λ_ _=>rfl)) rfl rfl (congrArg (AV.si .i64) hw) rfl rfl rfl rfl rfl rfl rfl⟩
 have ej:j=d.length:=by have h:¬(j:Int)<(d.length:Int):=h;omega
 have Z:bE (d.foldl (dF gone) s) c3:=by rw[<-q0k (l:=d),<-ej,<-D];exact C
 conv=>whnf
 exact⟨_,c3,.told rfl,Z,bQ rfl rfl rfl rfl rfl⟩
theorem IY:ai 44 (cL 5 SpB B7):=gA Rx 6 (by kernel_rfl) SpB rfl (by decide) λX cs l u ⟨k,a,b,Y,d,e,f,g,h,i⟩=>by
 subst d h i;exact⟨rfl,rfl,λc j=>La X k a b c j e f g⟩
def nW(a b:Int):Int×Int:=if qA a b=true then(0,9)else(IntKind.i64.wrap (a+b),0)
def Xr(cs:List AV)(v:AV):Prop:=∃a b,cs=[.si .i64 a,.si .i64 b]/\v= .tup [.si .i64 (nW a b).1,.si .i64 (nW a b).2]
theorem YL:ai 23 (cW Xr):=zW (ax az 2 _) (by kernel_rfl) λcs v ⟨a,b,k,l⟩=>by
 subst k l;refine⟨rfl,rfl,?_⟩;have e:qA a b=true->nW a b=(0,9):=λq=>if_pos q
 have f:qA a b=false->nW a b=(IntKind.i64.wrap (a+b),0):=λq=>if_neg (by rw[q];simp)
 have m:0<=b->IntKind.i64.wrap (a+b)<a->qA a b=true:=λp q=>decide_eq_true (.inl ⟨p,q⟩)
 have n:b<0->a<IntKind.i64.wrap (a+b)->qA a b=true:=λp q=>decide_eq_true (.inr ⟨p,q⟩)
 have g:(0<=b->¬IntKind.i64.wrap (a+b)<a)->(b<0->¬a<IntKind.i64.wrap (a+b))->qA a b=false:=λp q=>decide_eq_false λh=>h.elim (λh=>p h.1 h.2) (λh=>q h.1 h.2)
 have i:qA a b=true->dD (.tup [.si .i64 (nW a b).1,.si .i64 (nW a b).2]) (.tup [.int .i64 0,.int .i64 9]) .nil 0:=λq=>dD.told (by rw[e q];rfl)
 have j:qA a b=false->dD (.tup [.si .i64 (nW a b).1,.si .i64 (nW a b).2]) (.tup [.si .i64 (IntKind.i64.wrap (a+b)),.int .i64 0]) .nil 0:=λq=>dD.told (by rw[f q];rfl)
 clear e f
 conv=>whnf
 refine ah.dec (λd=>?_) (λd=>?_)
 ·conv=>whnf
  refine ah.dec (λz2=>?_) (λz2=>?_)
  ·have q:=i (m d z2)
   conv=>whnf
   exact q
  ·have q:=j (g (λ_=>z2) (λz=>by omega))
   conv=>whnf
   refine ah.dec (λc=>?_) (λc=>?_)
   ·exact absurd c (by omega)
   ·conv=>whnf
    exact q
 ·conv=>whnf
  refine ah.dec (λc=>?_) (λc=>?_)
  ·conv=>whnf
   refine ah.dec (λz2=>?_) (λz2=>?_)
   ·have q:=i (n c z2)
    conv=>whnf
    exact q
   ·have q:=j (g (λz=>absurd z d) (λ_=>z2))
    conv=>whnf
    exact q
  ·exact absurd c (by omega)
theorem Lb(a b:Int):aP (nW a b).1:=by
 unfold nW;split
 ·exact⟨by decide,by decide⟩
 ·exact qg _
def tq (X:SpV) (k:Tx) (t y:Int):SpV×Int×Int:=if cz X k≠0 then(X,0,cz X k)else match X.K k with
 |none=>(X,0,5)
 |some e=>if t<0∨1099511627776<=t then(X,0,1)else if 0<(e.L.length:Int)/\t<tAt e.L (e.L.length-1)then(X,0,7)
  else if(nW (vAt e.L (e.L.length-1)) y).2≠0 then(X,0,(nW (vAt e.L (e.L.length-1)) y).2)
  else if(fk X k t (nW (vAt e.L (e.L.length-1)) y).1 3).2≠0 then((fk X k t (nW (vAt e.L (e.L.length-1)) y).1 3).1,0,(fk X k t (nW (vAt e.L (e.L.length-1)) y).1 3).2)
  else((fk X k t (nW (vAt e.L (e.L.length-1)) y).1 3).1,(nW (vAt e.L (e.L.length-1)) y).1,0)
def OP(X:SpV)(cs:List AV)(a:SpV)(u:AV):Prop:=∃k t y Y,cs=[.ss k,.si .i64 t,.si .i64 y]/\Links X/\Bnd X 20000/\tq X k t y=Y/\a=Y.1/\u= .tup [.si .i64 Y.2.1,.si .i64 Y.2.2]
def Xs:FuncId->EP:=bg 19 [] (aq 61 (gT 5 SpB Rh) (aq 32 (gT 5 SpB nU) (aq 18 (mZ Uq) (aq 23 (cW Xr) evP))))
theorem Ry:aW Xs:=aw (ae (ae (ae (ae az YL) Xi) Rn) BV) (by kernel_rfl) (by kernel_rfl)
theorem GQ(X:SpV)(k:Tx)(t y:Int)(c:SpC)(Q:bE X c)(F:Links X)(z:Bnd X 20000){Y:SpV×Int×Int}(a:tq X k t y=Y):ay Xs 6 19 [.ptr 0 0,.ss k,.si .i64 t,.si .i64 y] (mkH (bF (spO c) 0)) 5 (gz SpB Y.1 (.tup [.si .i64 Y.2.1,.si .i64 Y.2.2])):=by
 obtain⟨G,I,J⟩:=Y
 conv=>whnf
 refine⟨X,[.ss k],X,_,_,c,rfl,by decide,.cons .same .nil,Q,uq rfl rfl rfl rfl rfl,⟨k,rfl,rfl,rfl⟩,λv b=>?_⟩
 conv=>whnf
 refine ah.di (λh=>?_) (λh=>?_)
 focus
  unfold tq at a;rw[if_pos h]at a;injection a with e1 e2;injection e2 with e2 e3;subst e1 e2 e3
  conv=>whnf
  exact⟨_,v,.told rfl,b,bQ rfl rfl rfl rfl rfl⟩
 have h:cz X k=0:=h;unfold tq at a;rw[if_neg (by rw[h];exact λq=>q rfl)]at a
 have R:(X.K k).isSome=true:=by
  unfold cz at h;by_cases q:(X.K k).isSome=true
  ·exact q
  ·rw[if_neg q]at h;cases h
 obtain⟨e,A⟩:=q0n.1 R;rw[A]at a;dsimp only at a;obtain⟨T,U,V,Z,a1,u1,q1⟩:=b.at1 A;have hL:=z k e A;obtain⟨lt,p⟩:∃lt,lt=tAt e.L (e.L.length-1):=⟨_,rfl⟩;obtain⟨o,r⟩:∃o,o=vAt e.L (e.L.length-1):=⟨_,rfl⟩;have i:sQ e.L= .tup [.agg [.si .i64 lt,.si .i64 o],.sb (decide ((0:Int)<(e.L.length:Int)))]:=by rw[p,r];rfl
 rw[<-p,<-r]at a;obtain⟨P,w⟩:∃P,P=nW o y:=⟨_,rfl⟩;have d:aP P.1:=by rw[w];exact Lb _ _
 rw[<-w]at a;obtain⟨s,P2⟩:=P;dsimp only at a d;obtain⟨W,B⟩:∃W,W=fk X k t s 3:=⟨_,rfl⟩;rw[<-B]at a;obtain⟨M,N⟩:=W;dsimp only at a;have fin:∀{u H n O},bE G O->mkT u=mkT (.tup [.si .i64 I,.si .i64 J])->xW H 5 (spO O) 0->gz SpB G (.tup [.si .i64 I,.si .i64 J]) u H n:=λh1 h2 h3=>⟨_,_,.told h2,h1,h3⟩
 conv=>whnf
 refine Ask.mk _ (bd (m:=v.m) (g:=gE) (k:=k) bP nT rfl rfl rfl qn Z) ?_
 conv=>whnf
 refine⟨4,aJ U,aJ V,T,e.S,e.L,_,rfl,by decide,by decide,rfl,congrArg (λx=>some (AO.sep (aI x))) q1,⟨rfl,i.symm⟩,?_⟩
 conv=>whnf
 refine ah.dec (λz2=>?_) (λz2=>?_)
 focus
  rw[if_pos (.inl z2)]at a;injection a with e1 e2;injection e2 with e2 e3;subst e1 e2 e3
  conv=>whnf
  exact fin b rfl (bQ rfl rfl rfl rfl rfl)
 conv=>whnf
 refine ah.dec (λC=>?_) (λC=>?_)
 focus
  rw[if_pos (.inr C)]at a;injection a with e1 e2;injection e2 with e2 e3;subst e1 e2 e3
  conv=>whnf
  exact fin b rfl (bQ rfl rfl rfl rfl rfl)
 rw[if_neg (λq=>q.elim z2 C)]at a
 conv=>whnf
 refine ah.dec (λD=>?_) (λD=>?_)
 focus
  conv=>whnf
  refine ah.dec (λE=>?_) (λE=>?_)
  focus
   rw[if_pos ⟨D,E⟩]at a;injection a with e1 e2;injection e2 with e2 e3;subst e1 e2 e3
   conv=>whnf
   exact fin b rfl (bQ rfl rfl rfl rfl rfl)
  rw[if_neg (λq=>E q.2)]at a
  conv=>whnf
  refine⟨_,_,_,.cons .same (.cons .same .nil),⟨o,y,rfl,by rw[<-w]⟩,?_⟩
  conv=>whnf
  refine ah.di (λj=>?_) (λj=>?_)
  focus
   rw[if_pos j]at a;injection a with e1 e2;injection e2 with e2 e3;subst e1 e2 e3
   conv=>whnf
   exact fin b rfl (bQ rfl rfl rfl rfl rfl)
  rw[if_neg (λq=>q j)]at a
  conv=>whnf
  refine⟨X,[.ss k,.agg [.si .i64 t,.si .i64 s],.si .i64 3],M,.si .i64 N,_,v,rfl,by decide,.cons .same (.cons .same (.cons (.told rfl) .nil)),b,uq rfl rfl rfl rfl rfl,⟨k,t,s,3,_,rfl,d,F,z,B.symm,rfl,rfl⟩,λc2 f=>?_⟩
  conv=>whnf
  refine ah.di (λl=>?_) (λl=>?_)
  focus
   rw[if_pos l]at a;injection a with e1 e2;injection e2 with e2 e3;subst e1 e2 e3
   conv=>whnf
   exact fin f rfl (bQ rfl rfl rfl rfl rfl)
  rw[if_neg (λq=>q l)]at a;injection a with e1 e2;injection e2 with e2 e3;subst e1 e2 e3
  conv=>whnf
  exact fin f rfl (bQ rfl rfl rfl rfl rfl)
 rw[if_neg (λq=>D q.1)]at a
 conv=>whnf
 refine⟨_,_,_,.cons .same (.cons .same .nil),⟨o,y,rfl,by rw[<-w]⟩,?_⟩
 conv=>whnf
 refine ah.di (λj=>?_) (λj=>?_)
 focus
  rw[if_pos j]at a;injection a with e1 e2;injection e2 with e2 e3;subst e1 e2 e3
  conv=>whnf
  exact fin b rfl (bQ rfl rfl rfl rfl rfl)
 rw[if_neg (λq=>q j)]at a
 conv=>whnf
 refine⟨X,[.ss k,.agg [.si .i64 t,.si .i64 s],.si .i64 3],M,.si .i64 N,_,v,rfl,by decide,.cons .same (.cons .same (.cons (.told rfl) .nil)),b,uq rfl rfl rfl rfl rfl,⟨k,t,s,3,_,rfl,d,F,z,B.symm,rfl,rfl⟩,λc2 f=>?_⟩
 conv=>whnf
 refine ah.di (λl=>?_) (λl=>?_)
 focus
  rw[if_pos l]at a;injection a with e1 e2;injection e2 with e2 e3;subst e1 e2 e3
  conv=>whnf
  exact fin f rfl (bQ rfl rfl rfl rfl rfl)
 rw[if_neg (λq=>q l)]at a;injection a with e1 e2;injection e2 with e2 e3;subst e1 e2 e3
 conv=>whnf
 exact fin f rfl (bQ rfl rfl rfl rfl rfl)
theorem EJ:ai 19 (cL 5 SpB OP):=gA Ry 6 (by kernel_rfl) SpB rfl (by decide) λX cs i u ⟨k,t,y,Y,a,b,d,e,f,g⟩=>by
 subst a f g;exact⟨rfl,rfl,λc h=>GQ X k t y c h b d e⟩
def SM(f g:List AV->AH->Nat->PK->Prop)(args:List AV)(H:AH)(n:Nat)(κ:PK):Prop:=f args H n κ∨g args H n κ
theorem ai.or{f:FuncId}{r s:List AV->AH->Nat->PK->Prop}(b:ai f r)(c:ai f s):ai f (SM r s):=λargs H n a d=>d.elim (b args H n a) (c args H n a)
def Xt(cs:List AV)(v:AV):Prop:=cs=[.nil]/\v= .nil
theorem Rz:ai 58 (cW Xt):=zW (ax Iv 4 _) (by kernel_rfl) λcs v ⟨a,b⟩=>by
 subst a b;refine⟨rfl,rfl,?_⟩
 conv=>whnf
 exact dD.told rfl
theorem Vj{H:AH}{n j:Nat}{c:SpC}{Q:HP}{u v:AV}(s:5<=j)(i:H.get 0=some (.cells [.map 1,aA c.px,aA c.pg] true))(l:H.get 1=some (c.m.O kT gE))(o:H.get 2=some (.sep (IxB.Q c.x c.px)))(p:H.get 3=some (.sep (GrB.Q c.g c.pg)))(q:H.get 4=some (.sep (aI (aJ c.m.A))))(r:H.get j=some (.sep Q))(hv:ab H 6 (λb=>if b=5 then j else b) u v):Cov 5 (mkE [(0,u)]) H n (mkE [(0,v)],mkH (bF (spO c++ [.sep Q]) 0),6):=by
 have f:∀b,b<5->(if b=5 then j else b)=b:=λb d=>if_neg (by omega)
 refine Cov.ofR (λb=>if b=5 then j else b) (by decide) f (λx a=>?_) (λx a=>?_) (λx a y h e=>?_)
 ·simp only[Z3,Z4,or_false]at a;subst a;exact hv
 ·simp only[bF,spO,q1q,q2f,Z3,Z4,or_false]at a;rcases a with rfl|rfl|rfl|rfl|rfl|rfl
  ·exact⟨Z0 rfl,.inl ⟨_,i,an.dQ (k:=2) rfl (by decide) (λb d=>f b (by omega))⟩⟩
  ·exact⟨Z0 rfl,.inl ⟨_,l,an.dQ (k:=0) (al aO fV) (by decide) (λb d=>absurd d (q1k b))⟩⟩
  ·exact⟨Z0 rfl,.inl ⟨_,o,an.sep _⟩⟩
  ·exact⟨Z0 rfl,.inl ⟨_,p,an.sep _⟩⟩
  ·exact⟨Z0 rfl,.inl ⟨_,q,an.sep _⟩⟩
  ·exact⟨Z0 rfl,.inl ⟨_,r,an.sep _⟩⟩
 ·simp only[bF,spO,q1q,q2f,Z3,Z4,or_false]at a h;rcases a with rfl|rfl|rfl|rfl|rfl|rfl<;>rcases h with rfl|rfl|rfl|rfl|rfl|rfl<;>simp at e⊢<;>omega
theorem RA{X:SpV}{c:SpC}{u v:AV}{H:AH}{n:Nat}{P:AV->List AO->Prop}(l:P v [])(hv:gy v=true)(h:gz SpB X v u H n):N7 SpB 5 X P u H n:=by
 obtain⟨J,m,p,s,w⟩:=h;refine⟨v,[],m,l,s,(jb (r:=λb=>b) hv).2,λo ho=>(by cases ho),by decide,?_⟩;rw[q0z];intro x A B C D E;obtain⟨F,f,g,i⟩:=p x A B (C 0) D (E 0 u rfl);obtain⟨j,d,k⟩:=BQ g w (by rw[SpB.len];exact Z6 _);refine⟨j,⟨λy q G e=>d.1 y q G (f.b y q e),λq e=>d.2.1 q (f.z q e),λq e=>f.y q (d.2.2 q e)⟩,k,λt a I=>?_⟩;have:=nG I;simp only[Z3,Z4,or_false]at this;injection this with e1 e2;subst e1 e2;exact nN d.2.1 hv i
def YM(o:Option fF)(v:AV)(E:List AO):Prop:=match o with
 |none=>v= .nil/\E=[]
 |some e=>∃p,v=aA p/\E=[.sep (cq p e.S e.L)]
def Xu(X:SpV)(cs:List AV)(a:SpV)(P:AV->List AO->Prop):Prop:=∃k,cs=[.ss k]/\a=X/\P=YM (X.K k)
def YN:FuncId->EP:=bg 16 [] (aq 58 (SM (cW Xt) IM) evP)
theorem RB:aW YN:=aw (ae az (Rz.or Ew)) (by kernel_rfl) (by kernel_rfl)
theorem GR:ai 16 (xX 5 SpB Xu):=xY (ax RB 5 _) (by kernel_rfl) SpB rfl (by decide) λX cs h P ⟨k,i,l,n⟩=>by
 subst i l n;refine⟨rfl,λc a=>?_⟩;cases f:h.K k with
 |none=>
  have b:=a.no1 f
  conv=>whnf
  refine Ask.mk _ (bd (m:=c.m) (g:=gE) (k:=k) bP nT rfl rfl rfl qn b) ?_
  conv=>whnf
  refine .inl ⟨_,_,_,.cons .same .nil,⟨rfl,rfl⟩,?_⟩
  conv=>whnf
  exact RA (c:=c) (v:= .nil) ⟨rfl,rfl⟩ rfl ⟨_,c,.told rfl,a,bQ rfl rfl rfl rfl rfl⟩
 |some e=>
  obtain⟨p,q,r,b,t,u,s⟩:=a.at1 f
  conv=>whnf
  refine Ask.mk _ (bd (m:=c.m) (g:=gE) (k:=k) bP nT rfl rfl rfl qn b) ?_
  conv=>whnf
  refine .inr ⟨4,aJ q,aJ r,p,e.S,e.L,rfl,by decide,by decide,rfl,congrArg (λx=>some (AO.sep (aI x))) s,λd=>?_⟩
  conv=>whnf
  refine⟨aA d,[.sep (cq d e.S e.L)],c,⟨d,rfl,rfl⟩,a,rfl,λo ho=>?_,Z0 rfl,Vj (j:=6) (by decide) rfl rfl rfl rfl rfl rfl (ab.aA rfl)⟩;simp only[Z3,Z4,or_false]at ho;subst ho;exact⟨rfl,rfl⟩
def Xv(o:Option fF):AV:=match o with
 |none=> .tup [.agg [.int .i64 0,.int .i64 0,.int .i64 0,.nsl],.sb false]
 |some e=> .tup [GM e.z e.S.ret e.S.pol e.lab,.sb true]
def Xw(X:SpV)(cs:List AV)(v:AV):Prop:=∃k,cs=[.ss k]/\v=Xv (X.K k)
def RC:DT:=[(4,[(some 0,[6]),(some 0,[25]),(some 0,[6]),(some 0,[27]),(none,[28]),(some 1,[6]),(some 2,[30]),(none,[31]),(some 4,[0]),(some 5,[33]),(some 6,[34]),(some 7,[35]),(some 8,[1]),(none,[36,37]),(some 0,[26,29,32,38]),(none,[4,39])])]
def YO:FuncId->EP:=bg 35 RC (cV 84 (dL 4 IxB KS) (cV 87 (dL 4 IxB W3) (cV 85 (mZ Un) (cV 86 (mZ Uo) evP))))
theorem RD:aW YO:=aw (ba (ba (ba (ba az Xh (BW _)) Xg (BW _)) Q7 (Gs _ _ _)) s8 (Gs _ _ _)) (by kernel_rfl) (by kernel_rfl)
theorem EK:ai 35 (dL 5 SpB Xw):=(gA RD 5 (by kernel_rfl) SpB rfl (by decide) λX cs f v ⟨n,k,o,p⟩=>by
 subst n o p;refine⟨rfl,by cases f.K k<;>rfl,λc a=>?_⟩;have b:=a.has k;have hi:=a.I k;cases d:f.K k with
 |none=>
  rw[d]at b
  conv=>whnf
  refine⟨2,c.px,c.x,[.ss k],.sb false,rfl,by decide,by decide,.cons .same .nil,rfl,rfl,⟨k,rfl,congrArg AV.sb b.symm⟩,?_⟩
  conv=>whnf
  refine ah.nsb (λz=>?_) (λz=>?_)
  focus
   conv=>whnf
   exact⟨_,c,.told rfl,a,bQ rfl rfl rfl rfl rfl⟩
  cases z
 |some e=>
  rw[d]at b hi;obtain⟨h,i,j,q,r,s,l⟩:=a.at1 d
  conv=>whnf
  refine⟨2,c.px,c.x,[.ss k],.sb true,rfl,by decide,by decide,.cons .same .nil,rfl,rfl,⟨k,rfl,congrArg AV.sb b.symm⟩,?_⟩
  conv=>whnf
  refine ah.nsb (λz=>?_) (λz=>?_)
  focus
   cases z
  conv=>whnf
  refine Ask.mk _ (bd (m:=c.m) (g:=gE) (k:=k) bP nT rfl rfl rfl qn q) ?_
  conv=>whnf
  refine⟨4,aJ i,aJ j,h,e.S,e.L,_,rfl,by decide,by decide,rfl,congrArg (λx=>some (AO.sep (aI x))) l,⟨rfl,rfl⟩,?_⟩
  conv=>whnf
  refine⟨4,aJ i,aJ j,h,e.S,e.L,_,rfl,by decide,by decide,rfl,congrArg (λx=>some (AO.sep (aI x))) l,⟨rfl,rfl⟩,?_⟩
  conv=>whnf
  refine⟨2,c.px,c.x,[.ss k],gL e.lab,rfl,by decide,by decide,.cons .same .nil,rfl,rfl,⟨k,rfl,by rw[hi];rfl⟩,?_⟩
  conv=>whnf
  exact⟨_,c,.told rfl,a,bQ rfl rfl rfl rfl rfl⟩).ol
theorem Cov.hole{p n:Nat}{σ:AE}{H:AH}{s:AE×AH×Nat}(h:Cov p σ (H.set (some (.sep .emp)) aa n) (n+1) s):Cov p σ H n s:=λx f g i j k=>by
 obtain⟨m,l,c⟩:=j.hole;obtain⟨o,d,r,u⟩:=h m f g i c (λt a v=>VR.mono l _ _ (k t a v));exact⟨o,⟨λb q w e=>d.1 b q w (l.b b q e),λq e=>d.2.1 q (l.z q e),λq e=>l.y q (d.2.2 q e)⟩,r,u⟩
def mw:SpV:=⟨λ_=>none,λ_=>none,0⟩
theorem RE(px pg:Nat×Nat):bE mw ⟨MpC.no,⟨[],0⟩,px,[],pg⟩:=⟨MpC.ya,.nil,.nil,by decide,Z6 _,Z6 _,Z6 _,Z6 _,λ_=>rfl,λ_=>rfl,λ_=>rfl,λ_ h=>(by cases h),λ_ _ h=>(by cases h),λ_ _ h=>(by cases h),λ_ _ h=>(by cases h)⟩
def YP:FuncId->EP:=bg 9 [] (aq 51 (sX 4 IxB λcs y=>cs=[]/\y=⟨[],0⟩) (aq 52 (sX 2 GrB λcs y=>cs=[]/\y=[]) evP))
theorem RF:aW YP:=aw (ae (ae az Rf) II) (by kernel_rfl) (by kernel_rfl)
def Xx(b:Nat):Nat:=if b=0 then 9 else if b=1 then 0 else if b=2 then 1 else if b=3 then 6 else if b=4 then 10 else b+100
theorem IZ:ai 9 (sX 5 SpB λcs y=>cs=[]/\y=mw):=N8 (ax RF 5 _) (by kernel_rfl) SpB rfl (by decide) λcs y ⟨h,j⟩=>by
 subst h j;refine⟨rfl,?_⟩
 conv=>whnf
 refine⟨[],⟨[],0⟩,_,by decide,.nil,rfl,⟨rfl,rfl⟩,λd=>?_⟩
 conv=>whnf
 refine⟨[],[],_,by decide,.nil,rfl,⟨rfl,rfl⟩,λf=>?_⟩
 conv=>whnf
 refine⟨⟨MpC.no,⟨[],0⟩,d,[],f⟩,RE d f,Cov.hole (Cov.ofR Xx (Y5 _) (λb k=>absurd k (q1k b)) (λx c=>?_) (λx c=>?_) (λx c y g e=>?_))⟩
 ·simp only[Z3,Z4,or_false]at c;subst c;exact .ptr (by decide) rfl
 ·simp only[bF,spO,SpB,Z3,Z4,or_false]at c;rcases c with rfl|rfl|rfl|rfl|rfl
  ·refine⟨Z0 rfl,.inl ⟨_,rfl,.cells (Z6 _) id λi l a=>?_⟩⟩
   match i,a with
   |0,a=>injection a with a;subst a;exact⟨_,rfl,.map (by decide) rfl⟩
   |1,a=>injection a with a;subst a;exact⟨_,rfl,.aA rfl⟩
   |2,a=>injection a with a;subst a;exact⟨_,rfl,.aA rfl⟩
   |i+3,a=>simp at a
  ·exact⟨Z0 rfl,.inl ⟨_,rfl,.GA⟩⟩
  ·exact⟨Z0 rfl,.inl ⟨_,rfl,an.sep _⟩⟩
  ·exact⟨Z0 rfl,.inl ⟨_,rfl,an.sep _⟩⟩
  ·exact⟨Z0 rfl,.inl ⟨_,rfl,an.sep _⟩⟩
 ·simp only[bF,spO,SpB,Z3,Z4,or_false]at c g;rcases c with rfl|rfl|rfl|rfl|rfl<;>rcases g with rfl|rfl|rfl|rfl|rfl<;>simp[Xx]at e⊢
theorem Re.JU{H d:AH}{n:Nat}{a f c g:AV}(h:Re H n a d f)(e:mkT c=mkT g):Re H n (.tup [a,c]) d (.tup [f,g]):=λi j k w m o=>by
 obtain⟨cs,rfl,p⟩:=o.eM;obtain⟨x,y,rfl,q,r⟩:=vs2 p;obtain⟨s,l,b,t⟩:=h i j k x m q;exact⟨s,l,b,.tup (.cons t (.cons (VR.mono l _ _ (Iz (e▸r.mkT))) .nil))⟩
theorem Re.slK{H:AH}{n b m c k:Nat}{l s:List AV}{z:Bool}(e:k≠0)(u:m<=c)(f:H.get b=some (.cells l z))(g:s.all flat.flat1=true)(a:s.length=m*k)(d:l.map mk=s.map mk):Re H n (.sl b 0 m c k) (H.set none aa b) (.fr m k s):=λi j h w o q=>by
 refine Re.row (x:=0) f g a d (by decide) i j h w o ?_;obtain⟨p,C,r,rfl,v,t⟩:=q.eT;obtain⟨y,A⟩:=t e;exact .rw r (λ_=>rfl) (q0u _ _) (by omega) (by omega)
def OQ:AV:= .agg [.int .i64 0,.int .i64 100,.bool false,.int .i64 0,.int .i64 0,.int .i64 0,.int .i64 0,.bool false,.nsl,.bool false,.int .i64 0,.int .i64 0]
def few(L:Smp):Prop:=L=[]∨∃t x,L=[(t,x)]/\0<=t/\t<=100
def Xy(cs:List AV)(v:AV):Prop:=∃L,few L/\cs=[.fr L.length 2 (smp L),OQ]/\v= .tup [.fr L.length 2 (smp L),.si .i64 0]
def kTl:FuncId->EP:=bg 103 [] evP
theorem Vk:aW kTl:=aw az (by kernel_rfl) (by kernel_rfl)
theorem RG:ai 103 (cW Xy):=zW (ax Vk 4 _) (by kernel_rfl) λcs v ⟨L,a,d,e⟩=>by
 subst d e;refine⟨rfl,rfl,?_⟩;rcases a with rfl|⟨t,x,rfl,f,g⟩
 ·conv=>whnf
  refine aQ.roll 1 ?_
  conv=>whnf
  refine ah.dec (λz=>absurd z (by decide)) (λz=>?_)
  conv=>whnf
  exact⟨_,.JU .nsl rfl⟩
 ·conv=>whnf
  refine aQ.roll 2 ?_
  conv=>whnf
  refine ah.dec (λz=>?_) (λz=>absurd (show(0:Int)<((1:Nat):Int) by decide) z)
  conv=>whnf
  refine Idx.mk 0 rfl Nat.zero_lt_one ?_
  conv=>whnf
  refine ah.dec (λz=>absurd z (by show¬t<0;omega)) (λz=>?_)
  conv=>whnf
  refine ah.dec (λz=>absurd z (by show¬100<t;omega)) (λz=>?_)
  conv=>whnf
  refine aQ.roll 1 ?_
  conv=>whnf
  refine ah.dec (λz=>absurd (show IntKind.i64.wrap (0+1)<((1:Nat):Int) from z) (by rw[aj (by decide) (by decide)];decide)) (λz=>?_)
  conv=>whnf
  refine⟨_,.JU (Re.slK (b:=6) (m:=1) (c:=1) (k:=2) (z:=true) (l:=[.si .i64 t,.si .i64 x]) (s:=smp [(t,x)]) (by decide) (by decide) ?_ rfl rfl rfl) rfl⟩;exact rfl
def q0:AV:= .agg [.int .i64 0,.int .i64 0,.bool false,.int .i64 0,.int .i64 0,.int .i64 0,.int .i64 0,.bool false,.nsl,.bool false,.int .i64 0,.int .i64 0]
def EL(X:SpV)(cs:List AV)(v:AV):Prop:=∃k,(cs=[.ss k,q0]/\X.K k=none/\v= .tup [.nsl,.si .i64 5])∨∃e,cs=[.ss k,OQ]/\X.K k=some e/\few (bJ 0 1099511627776 e.L)/\v= .tup [.fr (bJ 0 1099511627776 e.L).length 2 (smp (bJ 0 1099511627776 e.L)),.si .i64 0]
def YQ:FuncId->EP:=bg 45 [(5,[(some 1000000,[7,8]),(none,[0,1,2,3,4,5,6,7,8,9,10,11,12,13]),(none,[0,1,2,3,4,5,6,8,7,9,10,11,12,13])])] (aq 84 (dL 4 IxB KS) (cV 21 (u7 Ee) (aq 103 (cW Xy) evP)))
theorem RH:aW YQ:=aw (ae (ba (ae az RG) OM (GO _)) s8) (by kernel_rfl) (by kernel_rfl)
theorem OS:ai 45 (dL 5 SpB EL):=(gA RH 5 (by kernel_rfl) SpB rfl (by decide) λX cs s v ⟨j,k,h⟩=>by
 subst j;rcases h with⟨f,d,i⟩|⟨e,f,d,l,i⟩
 ·subst f i;refine⟨rfl,rfl,λc a=>?_⟩;have b:=a.has k;rw[d]at b
  conv=>whnf
  refine⟨2,c.px,c.x,[.ss k],.sb false,rfl,by decide,by decide,.cons .same .nil,rfl,rfl,⟨k,rfl,congrArg AV.sb b.symm⟩,?_⟩
  conv=>whnf
  refine ah.nsb (λz=>?_) (λz=>?_)
  focus
   conv=>whnf
   exact⟨_,c,.told rfl,a,bQ rfl rfl rfl rfl rfl⟩
  cases z
 ·subst f i;refine⟨rfl,rfl,λc a=>?_⟩;have b:=a.has k;rw[d]at b;obtain⟨n,o,p,q,t,u,r⟩:=a.at1 d
  conv=>whnf
  refine⟨2,c.px,c.x,[.ss k],.sb true,rfl,by decide,by decide,.cons .same .nil,rfl,rfl,⟨k,rfl,congrArg AV.sb b.symm⟩,?_⟩
  conv=>whnf
  refine ah.nsb (λz=>?_) (λz=>?_)
  focus
   cases z
  conv=>whnf
  refine⟨?_,?_,trivial⟩
  all_goals
   conv=>whnf
   refine Ask.mk _ (bd (m:=c.m) (g:=gE) (k:=k) bP nT rfl rfl rfl qn q) ?_
   conv=>whnf
   refine⟨4,aJ o,aJ p,n,e.S,e.L,bJ 0 1099511627776 e.L,rfl,by decide,by decide,rfl,congrArg (λx=>some (AO.sep (aI x))) r,⟨_,_,0,1099511627776,rfl,rfl,rfl,rfl⟩,?_⟩
   conv=>whnf
   refine⟨_,_,_,.cons .same (.cons .same .nil),⟨_,l,rfl,rfl⟩,?_⟩
   conv=>whnf
   exact⟨_,c,.told rfl,a,bQ rfl rfl rfl rfl rfl⟩).ol
def Vl(cs:List AV)(v:AV):Prop:=∃V W,cs=[.fr V.length 1 (strs V),.fr W.length 1 (strs W)]/\V.length<=1000000/\v= .sb (decide (V=W))
def Xz:FuncId->EP:=bg 30 [] evP
theorem RI:aW Xz:=aw az (by kernel_rfl) (by kernel_rfl)
def smT (V:List (List Nat)) (W:List (List Nat)) (i:Nat):AE×AH:=(mkE [(0,.fr V.length 1 (strs V)),(1,.fr W.length 1 (strs W)),(5,.si .i64 (i))],mkH [])
theorem RJ(V W:List Tx)(r:V.length<=1000000):ay Xz 3 30 [.fr V.length 1 (strs V),.fr W.length 1 (strs W)] .nil 0 (dD (.sb (decide (V=W)))):=by
 conv=>whnf
 refine ah.di (λd=>?_) (λd=>?_)
 ·have o:decide (V=W)=false:=decide_eq_false λe=>d (by subst e;rfl)
  rw[o]
  conv=>whnf
  exact dD.told rfl
 ·have m:V.length=W.length:=q3x.1 d
  conv=>whnf
  refine aQ.mk {i:Nat//i<=V.length/\V.take i=W.take i} 0 (λi=>smT V W i.val) (λi=>V.length-i.val) ⟨0,Y5 _,rfl⟩ ?_ ?_
  ·exact Cov.ofN [] ⟨ab.frE rfl,ab.frE rfl,sI,trivial⟩ trivial
  ·intro⟨i,s,f⟩
   conv=>whnf
   refine ah.dec (λg=>?_) (λg=>?_)
   ·have a:i<V.length:=q0t.1 g;have b:i<W.length:=m▸a;have j:V.length-(i+1)<V.length-i:=by omega
    have p:IntKind.i64.wrap ((i:Int)+1)=((i+1:Nat):Int):=by rw[aj (by omega) (by omega)];omega
    have k:V[i]=W[i]->V.take (i+1)=W.take (i+1):=λe=>by rw[Y8 a,Y8 b,f,e]
    have l:¬V[i]=W[i]->decide (V=W)=false:=λq=>decide_eq_false λe=>q (by subst e;rfl)
    conv=>whnf
    refine Idx.mk i rfl a ?_
    conv=>whnf
    refine au (fD a (q0r _)) ?_
    conv=>whnf
    refine Idx.mk i rfl b ?_
    conv=>whnf
    refine au (fD b (q0r _)) ?_
    conv=>whnf
    refine ah.nsb (λc=>?_) (λc=>?_)
    ·have:=l λe=>by rw[bk.2 e]at c;cases c
     conv=>whnf
     exact⟨_,.told (congrArg AV.sb this.symm)⟩
    ·have:=k (bk.1 c)
     conv=>whnf
     exact⟨⟨i+1,a,this⟩,j,Cov.ofN [] ⟨ab.frE rfl,ab.frE rfl,sI (congrArg (AV.si .i64) p),trivial⟩ trivial⟩
   ·have a:i=V.length:=by have:¬(i:Int)<(V.length:Int):=g;omega
    have b:decide (V=W)=true:=decide_eq_true (by rw[a,q0k,m,q0k]at f;exact f)
    conv=>whnf
    exact⟨_,.told (congrArg AV.sb b.symm)⟩
theorem XA:ai 30 (cW Vl):=pv RI 3 (by kernel_rfl) λcs v ⟨V,W,a,b,c⟩=>by
 subst a c;exact⟨rfl,rfl,RJ V W b⟩
section
variable {φ:Ph} {H H2:AH} {n:Nat} {h0 h:Hp}
theorem HR.RK(w:HR φ H n h0 h){c b i m k:Nat}{lc l s:List AV}{zc z:Bool}(x:H.get c=some (.cells lc zc))(hi:lc[i]?=some (.sl b 0 m m 0))(C:H.get b=some (.cells l z))(f:c≠b)(D:b<1000000)(E:s.all flat.flat1=true)(g:s.length=m*k)(o:l.map Go.Proofs.YtflehenfikoniaaGreat.mk=s.map Go.Proofs.YtflehenfikoniaaGreat.mk):
 ∃χ,PLe φ χ/\HR χ ((H.set none aa b).set (some (.cells (lc.set i (.fr m k s)) zc)) aa c) n h0 h:=by
 have a:=(Y6.1 hi).1;rcases w.live c _ x with⟨_,F⟩|⟨p,Z,G,h2,I,J⟩
 ·cases lc with
  |nil=>cases a
  |cons _ _=>cases F
 obtain⟨cc,t,fz,rfl,o1,o2,o3,o4,K⟩:=J;obtain⟨y,L,M⟩:=K i _ hi;obtain⟨χ,A,N,O⟩:=Re.sl C E g o φ h0 h y w M;have r:(H.set none aa b).get c=some (.cells lc zc):=PM.gne (by omega) f x
 refine⟨χ,A,N.Sk r rfl rfl (λq=>by cases lc with
  |nil=>cases a
  |cons _ _=>cases q) λP Q R d ⟨u,S,v,B,T,U,V,W,X⟩=>⟨u,S,v,B,by rw[List.length_set];exact T,U,V,W,λj Y e=>?_⟩⟩
 have:P=p:=by have:=A.b c p G;rw[R]at this;injection this
 subst this;rw[I]at d;injection d with d;rw[B]at d;injection d with d;subst d;by_cases q:i=j
 ·subst q;rw[List.getElem?_set_self a]at e;injection e with e;subst e;exact⟨y,L,O⟩
 ·rw[List.getElem?_set_ne q]at e;exact X j Y e
theorem Cov.pre{p:Nat}{σ:AE}{s:AE×AH×Nat}(h:∀φ h0 h,HR φ H n h0 h->∃ψ,PLe φ ψ/\HR ψ H2 n h0 h)(g:Cov p σ H2 n s):Cov p σ H n s:=λφ h0 f i j k=>by
 obtain⟨ψ,l,c⟩:=h φ h0 f j;obtain⟨m,d,o,r⟩:=g ψ h0 f i c (λt a u=>VR.mono l _ _ (k t a u));exact⟨m,⟨λb q v e=>d.1 b q v (l.b b q e),λq e=>d.2.1 q (l.z q e),λq e=>l.y q (d.2.2 q e)⟩,o,r⟩
end
abbrev rK:Rl:=⟨[97],[98],1,10,0⟩
abbrev oo:List Lab:=[([120],[49])]
def stV(a b:fF)(q:Bool)(n:Nat):SpV:=⟨λx=>if x=[98]then some b else if x=[97]then some a else none,λd=>if d=[98]then(if q=true then some rK else none)else none,n⟩
section
variable {a b e:fF} {q:Bool} {n:Nat}
theorem SN:fX (stV a b q n) [97] e=stV e b q n:=by
 unfold fX stV;congr 1;funext x;by_cases h:x=[97]
 ·subst h;rfl
 ·(try simp only[if_neg h])
theorem SO:fX (stV a b q n) [98] e=stV a e q n:=by
 unfold fX stV;congr 1;funext x;by_cases h:x=[98]
 ·subst h;rfl
 ·(try simp only[if_neg h])
theorem SQ{c:Bool}{m:Nat}:({qo (stV a b q n) [98] (if c=true then some rK else none)with n:=m}:SpV)=stV a b c m:=by
 have e:(λx=>if x=[98]then(if c=true then some rK else none)else(stV a b q n).R x)=(stV a b c m).R:=funext λx=>by
  unfold stV;by_cases h:x=[98]
  ·(try simp only[if_pos h])
  ·(try simp only[if_neg h])
 show(⟨(stV a b q n).K,(λx=>if x=[98]then(if c=true then some rK else none)else(stV a b q n).R x),m⟩:SpV)=_;rw[e];rfl
theorem Ah(t:Int):cm (stV a b q n) rK t=stV a {b with S:=(gU rK t a b).1,L:=(gU rK t a b).2} q n:=SO
def gV(q:Bool):Gr:=if q=true then [([98],rK)]else []
theorem I0:((gV q).map Prod.fst).Nodup:=by cases q<;>simp[gV]
theorem B8(k:Tx):aG (gV q) k=(stV a b q n).R k:=by
 cases q
 ·show aG [] k=_;unfold stV;by_cases h:k=[98]<;>simp[h,aG,gG]
 ·show aG [([98],rK)] k=_;unfold stV;by_cases h:k=[98]<;>simp[h,aG,gG]
theorem SR(x:Tx):aK [x]=[x]:=rA (bb _).1 (List.pairwise_singleton _ _) λy=>by rw[(bb _).2]
theorem OT:aK []=[]:=rA (bb _).1 .nil λy=>by rw[(bb _).2]
theorem Vm(k:Tx):ofX (stV a b q n) k=if q=true/\k=[97]then [rK]else []:=by
 have h:=m5 (f:=(stV a b q n).R) (A:=gV q) I0 B8;have e:ofX (stV a b q n) k=ofG (gV q) k:=BZ h.1 I0 (λd=>by rw[h.2,B8 (a:=a) (b:=b) (n:=n)]) (λr=>decide (r.src=k));rw[e];cases q
 ·show pkF [] _=_;unfold pkF;simp[OT]
 ·show pkF [([98],rK)] _=_;unfold pkF;by_cases c:k=[97]
  ·subst c;simp[SR,pkS,rul,aG,gG]
  ·have:¬[97]=k:=λe=>c e.symm
   simp[c,this,OT]
theorem XB:vi (stV a b q n)=if q=true then [rK]else []:=by
 have h:=m5 (f:=(stV a b q n).R) (A:=gV q) I0 B8;have e:vi (stV a b q n)=vg (gV q):=BZ h.1 I0 (λd=>by rw[h.2,B8 (a:=a) (b:=b) (n:=n)]) (λ_=>true);rw[e];cases q
 ·show pkF [] _=_;unfold pkF;simp[OT]
 ·show pkF [([98],rK)] _=_;unfold pkF;simp[SR,pkS,rul,aG,gG]
theorem Vn:oe (stV a b q n)=[[97],[98]]:=by
 have nd:(([([97],a),([98],b)]:List (Tx×fF)).map Prod.fst).Nodup:=by simp
 have j:∀k,aG ([([97],a),([98],b)]:List (Tx×fF)) k=(stV a b q n).K k:=λk=>by
  unfold stV;by_cases d:k=[98]
  ·subst d;rfl
  ·by_cases f:k=[97]
   ·subst f;rfl
   ·simp[d,f,aG,gG]
 have h:=m5 nd j;refine rA (bb _).1 ?_ λy=>?_
 ·refine .cons (λy c=>?_) (List.pairwise_singleton _ _);rw[q3m]at c;subst c;kernel_rfl
 ·show y∈aK _<->_;rw[(bb _).2];constructor
  ·intro c;obtain⟨⟨k,e⟩,d,rfl⟩:=q0e.1 c;rw[pJ h.1,h.2]at d;unfold stV at d;by_cases g:k=[98]
   ·simp[g]
   ·by_cases i:k=[97]
    ·simp[i]
    ·simp[g,i]at d
  ·intro c
   have:∃e,(stV a b q n).K y=some e:=by
    simp only[Z3,Z4,or_false]at c;rcases c with rfl|rfl
    ·exact⟨a,rfl⟩
    ·exact⟨b,rfl⟩
   obtain⟨e,l⟩:=this;exact q0e.2 ⟨(y,e),bM (by rw[h.2];exact l),rfl⟩
theorem yt:Links (stV a b q n):=λd r h=>by
 unfold stV at h;dsimp only at h;split at h
 ·split at h
  ·injection h with h;subst h;rename_i c _;subst c;exact⟨rfl,rfl⟩
  ·cases h
 ·cases h
theorem Lc{m:Nat}(c:a.L.length<=m)(d:b.L.length<=m):Bnd (stV a b q n) m:=λk e h=>by
 unfold stV at h;dsimp only at h;split at h
 ·injection h with h;subst h;exact d
 ·split at h
  ·injection h with h;subst h;exact c
  ·cases h
end
abbrev sK(m:Int):Sr:=⟨128,0,1,m,0⟩
abbrev eK(m:Int)(L:Smp):fF:=⟨sK m,L,128,oo⟩
abbrev eZ:fF:=eK (-1) []
theorem OU:(iK [97]&&dS oo)=true:=by kernel_rfl
theorem RL:(iK [98]&&dS oo)=true:=by kernel_rfl
theorem OV:cj oo=oo:=by kernel_rfl
theorem GU:qj 128 0 1=some (sK (-1)):=if_pos (by decide)
theorem XC:crF mw [97] 128 0 1 oo=(crK mw [97] eZ,0):=by
 unfold crF;rw[GU];dsimp only;rw[if_pos OU,OV];exact if_neg (by simp[mw])
theorem Vo:crK (crK mw [97] eZ) [98] eZ=stV eZ eZ false 2:=by
 unfold crK stV mw;simp
theorem XD:crF (crK mw [97] eZ) [98] 128 0 1 oo=(stV eZ eZ false 2,0):=by
 rw[<-Vo];unfold crF;rw[GU];dsimp only;rw[if_pos RL,OV];exact if_neg (by simp[mw,crK])
theorem XE:crF (stV eZ eZ false 2) [97] 128 0 1 oo=(stV eZ eZ false 2,6):=by
 unfold crF;rw[GU];dsimp only;rw[if_pos OU];exact if_pos (by simp[stV])
theorem XF:cS rK=true:=by kernel_rfl
theorem XG:rlF (stV eZ eZ false 2) rK=(stV eZ eZ true 3,0):=by
 unfold rlF;rw[if_pos XF,if_pos ⟨rfl,rfl⟩,if_neg (by simp[stV]),Vm,if_neg (by simp[stV])];exact congrArg (·,0) (SQ (c:=true) (m:=3))
theorem XH:lkF (stV eZ eZ false 2) rK=(stV eZ eZ true 3,0):=by
 unfold lkF;rw[XG,if_neg (by simp)];exact congrArg (·,0) SO
theorem Vp{a b:fF}{n:Nat}:cz (stV a b true n) [97]=0:=rfl
theorem XI{a b:fF}{n:Nat}:cz (stV a b true n) [98]=10:=rfl
theorem Vq{a b:fF}{n:Nat}{t v p:Int}{S:Sr}{L:Smp}(h:fg a.S a.L t v p=((S,L),0)):fk (stV a b true n) [97] t v p=(cY [97] a.S.mx t (stV {a with S:=S,L:=L} b true n) rK,0):=by
 unfold fk;rw[Vp,if_neg (λq=>q rfl)];show(if(fg a.S a.L t v p).2≠0 then _ else _)=_;rw[h,if_neg (λq=>q rfl),Vm,if_pos ⟨rfl,rfl⟩];unfold GK;rw[h,SN];rfl
theorem XJ:fk (stV eZ eZ true 3) [97] 1 5 0=(stV (eK 1 [(1,5)]) eZ true 3,0):=by
 rw[Vq (S:=sK 1) (L:=[(1,5)]) (by kernel_rfl)];unfold cY;rw[if_neg (by intro h;exact absurd h.1 (by decide)),Ah];rfl
theorem XK:fk (stV (eK 1 [(1,5)]) eZ true 3) [97] 5 6 0=(stV (eK 5 [(1,5),(5,6)]) eZ true 3,0):=by
 rw[Vq (S:=sK 5) (L:=[(1,5),(5,6)]) (by kernel_rfl)];unfold cY;rw[if_pos ⟨by decide,by decide⟩,Ah,Ah];rfl
theorem YR:tq (stV (eK 5 [(1,5),(5,6)]) eZ true 3) [97] 12 1=(stV (eK 12 [(1,5),(5,6),(12,7)]) (eK 0 [(0,11)]) true 3,7,0):=by
 have e:fk (stV (eK 5 [(1,5),(5,6)]) eZ true 3) [97] 12 7 3=(stV (eK 12 [(1,5),(5,6),(12,7)]) (eK 0 [(0,11)]) true 3,0):=by
  rw[Vq (S:=sK 12) (L:=[(1,5),(5,6),(12,7)]) (by kernel_rfl)];unfold cY;rw[if_pos ⟨by decide,by decide⟩,Ah,Ah];have d:gU rK 5 (eK 12 [(1,5),(5,6),(12,7)]) eZ=(sK 0,[(0,11)]):=by kernel_rfl
  rw[d];have c:gU rK 12 (eK 12 [(1,5),(5,6),(12,7)]) (eK 0 [(0,11)])=(sK 0,[(0,11)]):=by kernel_rfl
  exact congrArg (λz:Sr×Smp=>((stV (eK 12 [(1,5),(5,6),(12,7)]) ⟨z.1,z.2,128,oo⟩ true 3,0):SpV×Int)) c
 unfold tq;rw[Vp,if_neg (λq=>q rfl)];have c:nW (vAt [(1,5),(5,6)] (List.length [(1,5),((5,6):Int×Int)]-1)) 1=(7,0):=by kernel_rfl
 show(if(12:Int)<0∨1099511627776<=(12:Int)then _ else _)=_;rw[if_neg (by decide),if_neg (by decide),c,if_neg (λq=>q rfl),e,if_neg (λq=>q rfl)]
theorem XL:fk (stV (eK 12 [(1,5),(5,6),(12,7)]) (eK 0 [(0,11)]) true 3) [98] 1 5 0=(stV (eK 12 [(1,5),(5,6),(12,7)]) (eK 0 [(0,11)]) true 3,10):=by
 unfold fk;rw[XI];exact if_pos (by decide)
theorem YS:tp (stV (eK 12 [(1,5),(5,6),(12,7)]) (eK 0 [(0,11)]) true 3) [97] 5 5=(stV (eK 12 [(1,5),(12,7)]) (eK 0 [(0,5)]) true 3,1,0):=by
 unfold tp;rw[Vp,if_neg (λq=>q rfl),Vm,if_pos ⟨rfl,rfl⟩];show(dF (bJ 5 5 [(1,5),(5,6),(12,7)]) (fX (stV _ _ true 3) [97] _) rK,_,_)=_;rw[SN];have e0:bJ 5 5 [(1,5),(5,6),(12,7)]=[(5,6)]:=by kernel_rfl
 have d:aR [(1,5),(5,6),(12,7)] 5 5=[(1,5),(12,7)]:=by kernel_rfl
 have c:bB rK 5=0:=by kernel_rfl
 have f:gU rK 0 (eK 12 [(1,5),(12,7)]) (eK 0 [(0,11)])=(sK 0,[(0,5)]):=by kernel_rfl
 show(dF (bJ 5 5 [(1,5),(5,6),(12,7)]) (stV ⟨sK 12,aR [(1,5),(5,6),(12,7)] 5 5,128,oo⟩ _ true 3) rK,(((List.length [(1,5),(5,6),((12,7):Int×Int)]-(aR [(1,5),(5,6),(12,7)] 5 5).length:Nat):Int),(0:Int)))=_;rw[e0,d];unfold dF tn;show((cM rK (-1,_) (5,6)).2,_)=_;unfold cM;rw[if_pos (by rw[c];decide)];show(cm (stV _ _ true 3) rK (bB rK 5),_,_)=_;rw[c,Ah,f];rfl
theorem YT:uv (stV (eK 12 [(1,5),(12,7)]) (eK 0 [(0,5)]) true 3) [97] [98]=(stV (eK 12 [(1,5),(12,7)]) (eK 0 [(0,5)]) false 3,0):=by
 unfold uv;show(if rK.src=[97]then _ else _)=_;rw[if_pos rfl];exact congrArg (·,0) (SQ (c:=false) (m:=3))
theorem XM:few (bJ 0 1099511627776 []):= .inl rfl
theorem SU:bJ 0 1099511627776 [(0,11)]=[(0,11)]:=by kernel_rfl
theorem SV:bJ 0 1099511627776 [(0,5)]=[(0,5)]:=by kernel_rfl
def I1(args:List AV)(H:AH)(n:Nat)(κ:PK):Prop:=match args with
 |a::f=>∃b p X k c,a=aA p/\b<n/\n<800000/\Res H n f c [.ss k]/\c.get b=some (.sep (SpB.Q X p))/\ic c 5 n=true/\((X.K k=none/\κ .nil (c.set (some (.sep (SpB.Q X p))) aa b) (n+5))∨∃e,X.K k=some e/\∀d,κ (aA d) ((c.set (some (.sep (SpB.Q X p))) aa b).set (some (.sep (cq d e.S e.L))) aa (n+5)) (n+6))
 |_=>False
theorem OW:ai 16 I1:=λargs H n g c=>by
 unfold I1 at c;split at c
 ·obtain⟨b,p,X,k,h,i,j,l,m,o,q,a⟩:=c;refine GR _ H n g ⟨b,p,X,[.ss k],X,_,h,i,j,l,m,o,q,⟨k,rfl,rfl,rfl⟩,λv E d=>?_⟩;rcases a with⟨f,a⟩|⟨e,f,a⟩
  ·rw[f]at d;obtain⟨rfl,rfl⟩:=d;exact a
  ·rw[f]at d;obtain⟨r,rfl,rfl⟩:=d;exact a r
 ·exact c.elim
def XN:FuncId->EP:=aq 9 (sX 5 SpB λcs y=>cs=[]/\y=mw) (aq 46 (cL 5 SpB Rr) (aq 48 (cL 5 SpB Vg) (aq 32 (cL 5 SpB nU) (aq 45 (dL 5 SpB EL) (aq 19 (cL 5 SpB OP) (aq 44 (cL 5 SpB B7) (aq 35 (dL 5 SpB Xw) (aq 49 (cL 5 SpB Vb) (aq 12 (dL 5 SpB Va) (aq 25 (dL 5 SpB U9) (aq 16 I1 (aq 57 (pt SB) (aq 27 (cL 5 SpB Rp) (aq 20 (Ea 1000000 lz) (aq 30 (cW Vl) evP)))))))))))))))
theorem RM:aW XN:=ae (ae (ae (ae (ae (ae (ae (ae (ae (ae (ae (ae (ae (ae (ae (ae az XA) Ik) ED) Ur) OW) EC) Ag) yp) EK) IY) EJ) OS) B4) EG) yq) IZ
def XO:FuncId->EP:=bg 14 [(1000005,[])] XN
theorem RN:aW XO:=aw RM (by kernel_rfl) (by kernel_rfl)
theorem XQ:few (bJ 0 1099511627776 [(0,11)]):=by rw[SU];exact .inr ⟨0,11,rfl,by decide,by decide⟩
theorem XR:few (bJ 0 1099511627776 [(0,5)]):=by rw[SV];exact .inr ⟨0,5,rfl,by decide,by decide⟩
theorem XS:AV.tup [.fr 1 2 (smp [(0,11)]),.si .i64 0]= .tup [.fr (bJ 0 1099511627776 [(0,11)]).length 2 (smp (bJ 0 1099511627776 [(0,11)])),.si .i64 0]:=by rw[SU];rfl
theorem XT:AV.tup [.fr 1 2 (smp [(0,5)]),.si .i64 0]= .tup [.fr (bJ 0 1099511627776 [(0,5)]).length 2 (smp (bJ 0 1099511627776 [(0,5)])),.si .i64 0]:=by rw[SV];rfl
theorem XU:lz [(0,11)] [(0,11)]=true:=by kernel_rfl
theorem XV:lz [(0,5)] [(0,5)]=true:=by kernel_rfl
theorem I2{X:SpV}{k:Tx}:(kK X k).K k=none:=by
 unfold kK;split
 ·exact if_pos rfl
 ·rename_i h;cases e:X.K k with
  |none=>rfl
  |some y=>rw[e]at h;exact absurd rfl h
theorem RO{X:SpV}{k:Tx}(h:X.K k=none):kK X k=X:=by
 unfold kK;rw[h];rfl
theorem XW{X:SpV}{k:Tx}:kK X k=kK (kK X k) k:=(RO I2).symm
theorem XX{X:SpV}{k:Tx}:AV.sb false= .sb ((kK X k).K k).isSome:=by rw[I2];rfl
def knO (w:Nat×Nat):AE×AH:=(mkE [(0,.sb (false)),(1,aA w),(2,.ptr 7 (0))],mkH [(0,.sep (SpB.Q mw w)),(7,.cells [.int .i64 128,.int .i64 0,.int .i64 1,.fr 1 2 (dj oo)] true)])
theorem Ld:ay XO 6 14 [] .nil 0 (λu _ _=>mkT u=AV.sb true):=by
 conv=>whnf
 refine⟨[],mw,_,by decide,.nil,rfl,⟨rfl,rfl⟩,λp=>?_⟩
 conv=>whnf
 refine qz.mk Unit 8 (λ_=>knO p) ?_ ?_
 focus
  conv=>whnf
  exact⟨(),Cov.pre (λe f h a=>a.RK (c:=7) (b:=6) (i:=3) (m:=1) (k:=2) (s:=dj oo) rfl rfl rfl (by decide) (by decide) rfl rfl rfl) (Cov.ofN [] ⟨sB,ab.aA rfl,sP,trivial⟩ ⟨oS,oF,trivial⟩)⟩
 intro _
 conv=>whnf
 refine⟨0,p,mw,[.ss [97],GM 128 0 1 oo],(crK mw [97] eZ),.si .i64 0,_,rfl,by decide,by decide,.cons (.told rfl) (.cons (.agg rfl) .nil),rfl,rfl,⟨[97],128,0,1,oo,((crK mw [97] eZ),0),rfl,by decide,by decide,XC,rfl,rfl⟩,?_⟩
 conv=>whnf
 refine⟨0,p,(crK mw [97] eZ),[.ss [98],GM 128 0 1 oo],(stV (eZ) (eZ) false 2),.si .i64 0,_,rfl,by decide,by decide,.cons (.told rfl) (.cons (.agg rfl) .nil),rfl,rfl,⟨[98],128,0,1,oo,((stV (eZ) (eZ) false 2),0),rfl,by decide,by decide,XD,rfl,rfl⟩,?_⟩
 conv=>whnf
 refine⟨0,p,(stV (eZ) (eZ) false 2),[.ss [97],GM 128 0 1 oo],(stV (eZ) (eZ) false 2),.si .i64 6,_,rfl,by decide,by decide,.cons (.told rfl) (.cons (.agg rfl) .nil),rfl,rfl,⟨[97],128,0,1,oo,((stV (eZ) (eZ) false 2),6),rfl,by decide,by decide,XE,rfl,rfl⟩,?_⟩
 conv=>whnf
 refine⟨0,p,(stV (eZ) (eZ) false 2),[gR rK],(stV (eZ) (eZ) true 3),.si .i64 0,_,rfl,by decide,by decide,.cons (.agg rfl) .nil,rfl,rfl,⟨rK,((stV (eZ) (eZ) true 3),0),rfl,by decide,Lc (by decide) (by decide),XH,rfl,rfl⟩,?_⟩
 conv=>whnf
 refine⟨0,p,(stV (eZ) (eZ) true 3),[.ss [97],.agg [.si .i64 1,.si .i64 5],.si .i64 0],(stV (eK 1 [(1,5)]) (eZ) true 3),.si .i64 0,_,rfl,by decide,by decide,.cons (.told rfl) (.cons (.agg rfl) (.cons (.told rfl) .nil)),rfl,rfl,⟨[97],1,5,0,((stV (eK 1 [(1,5)]) (eZ) true 3),0),rfl,⟨by decide,by decide⟩,yt,Lc (by decide) (by decide),XJ,rfl,rfl⟩,?_⟩
 conv=>whnf
 refine⟨0,p,(stV (eK 1 [(1,5)]) (eZ) true 3),[.ss [97],.agg [.si .i64 5,.si .i64 6],.si .i64 0],(stV (eK 5 [(1,5),(5,6)]) (eZ) true 3),.si .i64 0,_,rfl,by decide,by decide,.cons (.told rfl) (.cons (.agg rfl) (.cons (.told rfl) .nil)),rfl,rfl,⟨[97],5,6,0,((stV (eK 5 [(1,5),(5,6)]) (eZ) true 3),0),rfl,⟨by decide,by decide⟩,yt,Lc (by decide) (by decide),XK,rfl,rfl⟩,?_⟩
 conv=>whnf
 refine⟨0,p,(stV (eK 5 [(1,5),(5,6)]) (eZ) true 3),[.ss [98],OQ],.tup [.fr (List.length []) 2 (smp []),.si .i64 0],rfl,by decide,by decide,.cons (.told rfl) (.cons (.agg rfl) .nil),rfl,rfl,⟨[98],.inr ⟨eZ,rfl,rfl,XM,rfl⟩⟩,?_⟩
 conv=>whnf
 refine⟨0,p,(stV (eK 5 [(1,5),(5,6)]) (eZ) true 3),[.ss [97],.si .i64 12,.si .i64 1],(stV (eK 12 [(1,5),(5,6),(12,7)]) (eK 0 [(0,11)]) true 3),.tup [.si .i64 7,.si .i64 0],_,rfl,by decide,by decide,.cons (.told rfl) (.cons (.told rfl) (.cons (.told rfl) .nil)),rfl,rfl,⟨[97],12,1,((stV (eK 12 [(1,5),(5,6),(12,7)]) (eK 0 [(0,11)]) true 3),7,0),rfl,yt,Lc (by decide) (by decide),YR,rfl,rfl⟩,?_⟩
 conv=>whnf
 refine⟨0,p,(stV (eK 12 [(1,5),(5,6),(12,7)]) (eK 0 [(0,11)]) true 3),[.ss [98],OQ],.tup [.fr (List.length [(0,11)]) 2 (smp [(0,11)]),.si .i64 0],rfl,by decide,by decide,.cons (.told rfl) (.cons (.agg rfl) .nil),rfl,rfl,⟨[98],.inr ⟨eK 0 [(0,11)],rfl,rfl,XQ,XS⟩⟩,?_⟩
 conv=>whnf
 refine⟨0,p,(stV (eK 12 [(1,5),(5,6),(12,7)]) (eK 0 [(0,11)]) true 3),[.ss [98],.agg [.si .i64 1,.si .i64 5],.si .i64 0],(stV (eK 12 [(1,5),(5,6),(12,7)]) (eK 0 [(0,11)]) true 3),.si .i64 10,_,rfl,by decide,by decide,.cons (.told rfl) (.cons (.agg rfl) (.cons (.told rfl) .nil)),rfl,rfl,⟨[98],1,5,0,((stV (eK 12 [(1,5),(5,6),(12,7)]) (eK 0 [(0,11)]) true 3),10),rfl,⟨by decide,by decide⟩,yt,Lc (by decide) (by decide),XL,rfl,rfl⟩,?_⟩
 conv=>whnf
 refine⟨0,p,(stV (eK 12 [(1,5),(5,6),(12,7)]) (eK 0 [(0,11)]) true 3),[.ss [97],.si .i64 5,.si .i64 5],(stV (eK 12 [(1,5),(12,7)]) (eK 0 [(0,5)]) true 3),.tup [.si .i64 1,.si .i64 0],_,rfl,by decide,by decide,.cons (.told rfl) (.cons (.told rfl) (.cons (.told rfl) .nil)),rfl,rfl,⟨[97],5,5,((stV (eK 12 [(1,5),(12,7)]) (eK 0 [(0,5)]) true 3),1,0),rfl,yt,Lc (by decide) (by decide),YS,rfl,rfl⟩,?_⟩
 conv=>whnf
 refine⟨0,p,(stV (eK 12 [(1,5),(12,7)]) (eK 0 [(0,5)]) true 3),[.ss [98],OQ],.tup [.fr (List.length [(0,5)]) 2 (smp [(0,5)]),.si .i64 0],rfl,by decide,by decide,.cons (.told rfl) (.cons (.agg rfl) .nil),rfl,rfl,⟨[98],.inr ⟨eK 0 [(0,5)],rfl,rfl,XR,XT⟩⟩,?_⟩
 conv=>whnf
 refine⟨0,p,(stV (eK 12 [(1,5),(12,7)]) (eK 0 [(0,5)]) true 3),[.ss [97]],Xv (some (eK 12 [(1,5),(12,7)])),rfl,by decide,by decide,.cons (.told rfl) .nil,rfl,rfl,⟨[97],rfl,rfl⟩,?_⟩
 conv=>whnf
 refine⟨0,p,(stV (eK 12 [(1,5),(12,7)]) (eK 0 [(0,5)]) true 3),[.ss [99],q0],.tup [.nsl,.si .i64 5],rfl,by decide,by decide,.cons (.told rfl) (.cons (.agg rfl) .nil),rfl,rfl,⟨[99],.inl ⟨rfl,rfl,rfl⟩⟩,?_⟩
 conv=>whnf
 refine⟨0,p,(stV (eK 12 [(1,5),(12,7)]) (eK 0 [(0,5)]) true 3),[.ss [97],.ss [98]],(stV (eK 12 [(1,5),(12,7)]) (eK 0 [(0,5)]) false 3),.si .i64 0,_,rfl,by decide,by decide,.cons (.told rfl) (.cons (.told rfl) .nil),rfl,rfl,⟨[97],[98],((stV (eK 12 [(1,5),(12,7)]) (eK 0 [(0,5)]) false 3),0),rfl,YT,rfl,rfl⟩,?_⟩
 conv=>whnf
 iterate 9
  refine ah.dec (λ_=>?_) (λz=>absurd (by decide) z)
  conv=>whnf
 refine⟨[(0,11)],[(0,11)],.inr (.inl (.inr ⟨_,rfl,rfl,by decide⟩)),.inr (.inr ⟨_,_,_,_,_,_,rfl,.inr ⟨_,rfl⟩,rfl,rfl,by decide⟩),by decide,by decide,?_⟩
 conv=>whnf
 refine ah.sb (λ_=>?_) (λz=>absurd (XU.symm.trans z) (by decide))
 conv=>whnf
 iterate 4
  refine ah.dec (λ_=>?_) (λz=>absurd (by decide) z)
  conv=>whnf
 refine⟨[(0,5)],[(0,5)],.inr (.inl (.inr ⟨_,rfl,rfl,by decide⟩)),.inr (.inr ⟨_,_,_,_,_,_,rfl,.inr ⟨_,rfl⟩,rfl,rfl,by decide⟩),by decide,by decide,?_⟩
 conv=>whnf
 refine ah.sb (λ_=>?_) (λz=>absurd (XV.symm.trans z) (by decide))
 conv=>whnf
 refine ah.sb (λ_=>?_) (λz=>absurd z (by decide))
 conv=>whnf
 iterate 3
  refine ah.dec (λ_=>?_) (λz=>absurd (by decide) z)
  conv=>whnf
 refine⟨0,p,(stV (eK 12 [(1,5),(12,7)]) (eK 0 [(0,5)]) false 3),[],.fr 0 5 [],rfl,by decide,by decide,.nil,rfl,rfl,⟨rfl,by rw[XB];rfl⟩,?_⟩
 conv=>whnf
 iterate 1
  refine ah.dec (λ_=>?_) (λz=>absurd (by decide) z)
  conv=>whnf
 refine⟨0,p,(stV (eK 12 [(1,5),(12,7)]) (eK 0 [(0,5)]) false 3),[],.fr 2 1 (strs [[97],[98]]),rfl,by decide,by decide,.nil,rfl,rfl,⟨rfl,by rw[Vn];rfl⟩,?_⟩
 conv=>whnf
 refine⟨[.fr 2 1 (strs [[97],[98]]),.fr 2 1 (strs [[97],[98]])],.sb true,_,.cons .same (.cons (.sl rfl rfl rfl rfl) .nil),⟨[[97],[98]],[[97],[98]],rfl,by decide,rfl⟩,?_⟩
 conv=>whnf
 refine ah.sb (λ_=>?_) (λz=>absurd z (by decide))
 conv=>whnf
 refine⟨0,p,(stV (eK 12 [(1,5),(12,7)]) (eK 0 [(0,5)]) false 3),[97],_,rfl,by decide,by decide,.cons (.told rfl) .nil,rfl,rfl,.inr ⟨_,rfl,λd=>?_⟩⟩
 conv=>whnf
 refine⟨102,d,_,_,_,rfl,by decide,rfl,⟨by decide,rfl,rfl,rfl,rfl⟩,⟨rfl,rfl⟩,?_⟩
 conv=>whnf
 iterate 1
  refine ah.dec (λ_=>?_) (λz=>absurd (by decide) z)
  conv=>whnf
 refine⟨0,p,(stV (eK 12 [(1,5),(12,7)]) (eK 0 [(0,5)]) false 3),[.ss [97]],(kK (stV (eK 12 [(1,5),(12,7)]) (eK 0 [(0,5)]) false 3) [97]),.sb true,_,rfl,by decide,by decide,.cons (.told rfl) .nil,rfl,rfl,⟨[97],rfl,rfl,rfl⟩,?_⟩
 conv=>whnf
 refine ah.sb (λ_=>?_) (λz=>absurd z (by decide))
 conv=>whnf
 refine⟨0,p,(kK (stV (eK 12 [(1,5),(12,7)]) (eK 0 [(0,5)]) false 3) [97]),[.ss [97]],(kK (stV (eK 12 [(1,5),(12,7)]) (eK 0 [(0,5)]) false 3) [97]),.sb false,_,rfl,by decide,by decide,.cons (.told rfl) .nil,rfl,rfl,⟨[97],rfl,XW,XX⟩,?_⟩
 conv=>whnf
 exact rfl
end Go.Proofs.YtflehenfikoniaaGreat
namespace Go.Proofs.YtflehenfikoniaaGreat
open Go Go.RowKit Go.ChangeShapes Go.WideShapes
theorem Le:ai 14 xP:=λargs H n f b g c h i K d a e=>by
 unfold xP at b;split at b
 ·exact iu (v:= .bool true) RN rfl Ld b d e (by kernel_rfl) HR.ro0 (by rw[a.aU];exact .nil)
 ·exact b.elim
structure Oq where
 kind:Int
 key:Tx
 t:Int
 v:Int
 p:Int
 z:Int
 ret:Int
 pol:Int
 lab:List Lab
 r:Rl
def opC(o:Oq):List AV:=[.si .i64 o.kind,.ss o.key,.si .i64 o.t,.si .i64 o.v,.si .i64 o.p,.si .i64 o.z,.si .i64 o.ret,.si .i64 o.pol,gL o.lab,.ss o.r.src,.ss o.r.dst,.si .i64 o.r.kind,.si .i64 o.r.size,.si .i64 o.r.align]
def oqC(S:List Oq):List AV:=S.flatMap opC
theorem OX(o:Oq):(opC o).all mF=true:=rfl
theorem EM:∀S:List Oq,(oqC S).all mF=true
 | []=>rfl
 |o::S=>by
  show((opC o)++oqC S).all mF=true;rw[List.all_append,OX,EM S];rfl
theorem yu(S:List Oq):(oqC S).length=S.length*14:=by
 induction S with
 |nil=>rfl
 |cons o S a=>show(opC o++oqC S).length=_;rw[Z5,a,Z9];show 14+_=_;omega
theorem OY(S:List Oq)(i:Nat):(oqC S).drop (i*14)=oqC (S.drop i):=by
 induction S generalizing i with
 |nil=>simp[oqC]
 |cons o S a=>
  cases i with
  |zero=>rw[q1o,q4o,q4o]
  |succ i=>
   rw[List.drop_succ_cons,<-a];show(opC o++oqC S).drop _=_;rw[show(i+1)*14=(opC o).length+i*14 by show _=14+_;omega,List.drop_append,List.drop_of_length_le (by omega),q2f];congr 1;omega
theorem I3{S:List Oq}{i o:Nat}(h:i<S.length)(ho:o=i*14):bq (oqC S) o 14=some (opC S[i]):=by
 subst ho;unfold bq;rw[q0o (by rw[yu];omega),OY,q0j h];rfl
structure Oq.In(o:Oq):Prop where
 kind:aP o.kind
 t:aP o.t
 v:aP o.v
 p:aP o.p
 lab:o.lab.length<=maxLen
section
variable {H:Type} {enc:TypeId×Value->H} {P:Program} {W:World} {held:Bool}
def OZ:Value->Tx
 | .string s=>s.data.toList.map UInt8.toNat
 |_=> []
def EN:List Value->Lab
 | [a,b]=>(OZ a,OZ b)
 |_=>([],[])
theorem Ai{Tr:TypeId->Value->Prop}:∀{rows:List (List Value)},(∀r∈rows,jN Tr [.str,.str] r)->∀φ:Ph,VRs φ (dj (rows.map EN)) rows.flatten
 | [],_,φ=> .nil
 |r::rows,h,φ=>by
  obtain⟨d,c⟩:=h r q0b
  match r,d,c with
  | [v,w],_,c=>
   obtain⟨a,rfl,f⟩:=c 0 _ v rfl rfl
   obtain⟨b,rfl,g⟩:=c 1 _ w rfl rfl
   exact .cons (kO a) (.cons (kO b) (Ai (λx e=>h x (Y4 _ e)) φ))
theorem Aj:∀l:List Lab,(dj l).all mF=true
 | []=>rfl
 |y::l=>Aj l
theorem O0(l:List Lab):(dj l).length=l.length*2:=by
 induction l with
 |nil=>rfl
 |cons y l a=>show(dj l).length+1+1=_;rw[a,Z9];omega
theorem Lf{t e:TypeId}{d fuel:Nat}{v:Value}{D:DataW H}{j:List MemPlace}(l:P.underlying t=some (.slice e))(n:yM P d e=some [.str,.str])(g:P.cellsOf e=2)(o:DataW.trod enc P W 0 (λ_=>true) held fuel t [v]=some (D,j)):
 ∃(L:List Lab) (z:Fz->Prop),lp W z/\(∀χ:Ph,(∀q,z q->χ.z q)->VR χ (gL L) v)/\L.length<=maxLen:=by
 obtain⟨rows,p,G,s,w⟩:=w8 l n rfl g (by decide) o
 rcases w with⟨rfl,a,C,rfl,x⟩|⟨b,off,cap,I,u,fz,rfl,f,y,h,c⟩
 ·exact⟨[],λ_=>False,.none,λχ _=> .fre x,Y5 _⟩
 ·obtain⟨A,B⟩:=Hr (m:=rows.length) (k:=2) (L:=dj (rows.map EN)) (z:=λq=>q=⟨b,off,dj (rows.map EN)⟩) y f (by rw[O0,Y9]) h (Aj _) rfl (Ai (λr E=>(p r E).1) _) c
  exact⟨rows.map EN,λq=>q=⟨b,off,dj (rows.map EN)⟩,λq F=>by subst F;exact A,λχ i=>by unfold gL;rw[Y9];exact B χ i,by rw[Y9];exact s⟩
abbrev Vr(t:TypeId):List Kd:=[.int .i64,.str,.int .i64,.int .i64,.int .i64,.int .i64,.int .i64,.int .i64,.sl t,.str,.str,.int .i64,.int .i64,.int .i64]
theorem RP{p el:TypeId}{d:Nat}{r:List Value}(s:P.underlying p=some (.slice el))(b:yM P d el=some [.str,.str])(c:P.cellsOf el=2)(h:jN (TrS enc P W 0 (λ_=>true) held) (Vr p) r):
 ∃(o:Oq) (z:Fz->Prop),o.In/\lp W z/\∀χ:Ph,(∀q,z q->χ.z q)->VRs χ (opC o) r:=by
 obtain⟨t,a⟩:=h
 match r,t,a with
 | [u,v,w,x,y,A,B,C,D,E,v10,v11,e,f],_,a=>
  obtain⟨F,rfl,G⟩:=a 0 _ u rfl rfl
  obtain⟨I,rfl,_⟩:=a 1 _ v rfl rfl
  obtain⟨J,rfl,K⟩:=a 2 _ w rfl rfl
  obtain⟨M,rfl,N⟩:=a 3 _ x rfl rfl
  obtain⟨O,rfl,Q⟩:=a 4 _ y rfl rfl
  obtain⟨R,rfl,_⟩:=a 5 _ A rfl rfl
  obtain⟨S,rfl,_⟩:=a 6 _ B rfl rfl
  obtain⟨T,rfl,_⟩:=a 7 _ C rfl rfl
  obtain⟨g,⟨D2,U⟩,i⟩:=a 8 _ D rfl rfl
  obtain⟨V,rfl,_⟩:=a 9 _ E rfl rfl
  obtain⟨j,rfl,_⟩:=a 10 _ v10 rfl rfl
  obtain⟨k,rfl,_⟩:=a 11 _ v11 rfl rfl
  obtain⟨l,rfl,_⟩:=a 12 _ e rfl rfl
  obtain⟨m,rfl,_⟩:=a 13 _ f rfl rfl
  obtain⟨L,z,X,Y,Z⟩:=Lf s b c i;exact⟨⟨F,OZ (.string I),J,M,O,R,S,T,L,⟨OZ (.string V),OZ (.string j),k,l,m⟩⟩,z,⟨.of G,.of K,.of N,.of Q,Z⟩,X,λχ n=> .cons (.si _ _) (.cons (kO _) (.cons (.si _ _) (.cons (.si _ _) (.cons (.si _ _) (.cons (.si _ _) (.cons (.si _ _) (.cons (.si _ _) (.cons (Y χ n) (.cons (kO _) (.cons (kO _) (.cons (.si _ _) (.cons (.si _ _) (.cons (.si _ _) .nil)))))))))))))⟩
theorem RQ{t e s el:TypeId}{d d2:Nat}{v:Value}{D:DataW H}{U:List MemPlace}(V:P.underlying t=some (.slice e))(X:yM P d e=some (Vr s))(w:P.cellsOf e=14)(Y:P.underlying s=some (.slice el))(A:yM P d2 el=some [.str,.str])(B:P.cellsOf el=2)(j:v.cells.toList=[v])(hd:DataW.Trod enc P W 0 (λ_=>true) held t v D U):
 ∃(S:List Oq) (z:Fz->Prop),(∀o∈S,o.In)/\lp W z/\(∀χ:Ph,(∀q,z q->χ.z q)->VR χ (.fr S.length 14 (oqC S)) v)/\(S=[]∨∃E F,D= .slice ((List.range S.length).map F) E)/\S.length<=maxLen:=by
 obtain⟨fuel,Q⟩:=hd;rw[j]at Q;obtain⟨rows,Z,h2,h3,h4⟩:=w8 (c:=14) V X rfl w (by decide) Q
 rcases h4 with⟨rfl,a,C,rfl,hC⟩|⟨b,off,cap,cc,u,fz,rfl,l,hb,G,n⟩
 ·exact⟨[],λ_=>False,(λx h=>by cases h),.none,λχ _=> .fre hC,.inl rfl,Y5 _⟩
 ·have inner:∀(R:List (List Value)),(∀r∈R,jN (TrS enc P W 0 (λ_=>true) held) (Vr s) r/\r.length=14)->∃(S:List Oq) (z:Fz->Prop),S.length=R.length/\(∀o∈S,o.In)/\lp W z/\∀χ:Ph,(∀q,z q->χ.z q)->VRs χ (oqC S) R.flatten:=λR=>by
   induction R with
   |nil=>intro _;exact⟨[],λ_=>False,rfl,(λx h=>by cases h),.none,λχ _=> .nil⟩
   |cons r R ih=>
    intro T;obtain⟨S,z,i,I,J,K⟩:=ih λx p=>T x (Y4 _ p)
    obtain⟨g1,g2⟩:=T r q0b;obtain⟨o,y,M,N,j3⟩:=RP Y A B g1;refine⟨o::S,λq=>y q∨z q,by simp[i],λx p=>?_,N.or J,λχ g=>?_⟩
    ·rcases Z3.1 p with rfl|p
     ·exact M
     ·exact I x p
    ·show VRs χ (opC o++oqC S) (r++R.flatten);exact(j3 χ λq f=>g q (.inl f)).append (K χ λq f=>g q (.inr f))
  obtain⟨S,z,i,I,J,K⟩:=inner rows Z
  let O:Fz->Prop:=λq=>z q∨q=⟨b,off,oqC S⟩
  obtain⟨M,N⟩:=Hr (m:=rows.length) (k:=14) (L:=oqC S) (z:=O) hb l (by rw[yu,i]) G (EM S) (.inr rfl) (K _ λq f=> .inl f) n;exact⟨S,O,I,λq f=>f.elim (λf=>FzR.mono (φ:=phF z) (ψ:=phF O) (λ_ h=>Or.inl h) (J q f)) (λf=>by subst f;exact M),λχ g=>by rw[i];exact N χ g,by rw[i];exact h2.imp (λq=>by rw[q]at i;exact q0c i) id,by rw[i];exact h3⟩
end
end Go.Proofs.YtflehenfikoniaaGreat
namespace Go.Proofs.YtflehenfikoniaaGreat
open Go Go.RowKit
def Vs(X:SpV):Prop:=∀d r,X.R d=some r->X.R r.src=none
def aT(X:SpV)(E:Tx->List Int)(k:Tx):List Int:=match X.R k with
 |none=>E k
 |some r=>(E r.src).map (bB r)
structure Few(X:SpV)(b:Nat)(E:Tx->List Int):Prop where
 len:∀k,(E k).length<=b
 mem:∀k e,X.K k=some e->∀x∈e.L,x.1∈aT X E k
theorem I4:∀{l m:List Int},l.Nodup->(∀x∈l,x∈m)->l.length<=m.length
 | [],_,_,_=>Y5 _
 |x::l,m,h,f=>by
  obtain⟨i,j⟩:=q2u.1 h;obtain⟨a,c,e⟩:=List.append_of_mem (f x q0b)
  have:=I4 (l:=l) (m:=a++c) j λy g=>by
   have d:=f y (Y4 _ g);rw[e]at d;simp only[q1d,Z3]at d⊢;rcases d with d|rfl|d
   ·exact .inl d
   ·exact absurd g i
   ·exact .inr d
  rw[e];simp only[Z5,Z9]at this⊢;omega
theorem Up.nodup{L:Smp}(h:Up L):(L.map Prod.fst).Nodup:=by
 unfold List.Nodup;rw[List.pairwise_map];exact h.imp λq=>by omega
section
variable {X Y:SpV} {b:Nat} {E:Tx->List Int} {r:Rl} {t was:Int} {k:Tx} {c:SpC}
theorem O1(h:Few X b E):(aT X E k).length<=b:=by
 unfold aT;split
 ·exact h.len k
 ·rw[Y9];exact h.len _
theorem Few.bnd(h:Few X b E)(f:bE X c):Bnd X b:=λk e a=>by
 have d:=I4 (f.ser k e a).up.nodup (m:=aT X E k) λt g=>by
  obtain⟨x,i,rfl⟩:=q0e.1 g;exact h.mem k e a x i
 rw[Y9]at d;exact Y7 d (O1 h)
theorem RR(r:Rl)(x:Int):bB r (bB r x)=bB r x:=by
 unfold bB;generalize r.size=s;generalize r.align=a;by_cases h:tW s a=true/\n8 x=true/\a<=x
 ·have e:gv x s a=x-(x-a)%s:=if_pos h;obtain⟨d,i,o⟩:=h;have j:=of_decide_eq_true d;have l:=of_decide_eq_true i;have p:=Int.emod_nonneg (x-a) (show s≠0 by omega);have u:=Int.emod_lt_of_pos (x-a) (show 0<s by omega)
  have v:(x-a)%s<=x-a:=by
   have:=Int.mul_ediv_add_emod (x-a) s;have f:0<=(x-a)/s:=Int.ediv_nonneg (by omega) (by omega);have g:0<=s*((x-a)/s):=Int.mul_nonneg (by omega) f;omega
  have m:(x-(x-a)%s-a)%s=0:=by
   have f:=Int.mul_ediv_add_emod (x-a) s;have g:x-(x-a)%s-a=s*((x-a)/s):=by omega
   rw[g];exact Int.mul_emod_right _ _
  rw[e];unfold gv;rw[if_pos ⟨d,decide_eq_true (by omega),by omega⟩,m];omega
 ·have e:gv x s a=0:=if_neg h;rw[e];unfold gv;split
  ·rename_i q;have:=of_decide_eq_true q.1;have n:a=0:=by omega
   subst n;simp
  ·rfl
theorem O3{L:Smp}{t v p:Int}{x:Int×Int}(h:x∈(eE L t v p).1):x.1=t∨∃y∈L,y.1=x.1:=by
 unfold eE at h;split at h
 ·split at h
  ·exact .inr ⟨x,h,rfl⟩
  ·rcases List.mem_or_eq_of_mem_set (show x∈L.set _ _ from h)with h|rfl
   ·exact .inr ⟨x,h,rfl⟩
   ·exact .inl rfl
 ·rcases o9.1 h with rfl|h
  ·exact .inl rfl
  ·exact .inr ⟨x,h,rfl⟩
theorem EO{S:Sr}{L:Smp}{t v p:Int}{x:Int×Int}(h:x∈(fg S L t v p).1.2):x.1=t∨∃y∈L,y.1=x.1:=by
 unfold fg at h;generalize (if p=0 then S.pol else p)=q at h;split at h
 ·exact .inr ⟨x,h,rfl⟩
 ·split at h
  ·exact .inr ⟨x,h,rfl⟩
  ·split at h
   ·exact O3 (jw.1 h).1
   ·exact .inr ⟨x,h,rfl⟩
theorem O4{S:Sr}{L:Smp}{ret p:Int}{x:Int×Int}(h:x∈(jU S L ret p).1.2):x∈L:=by
 unfold jU at h;split at h
 ·exact(jw.1 h).1
 ·exact h
theorem Lg{s d:fF}{x:Int×Int}(h:x∈(gU r t s d).2):x.1=bB r t∨∃y∈d.L,y.1=x.1:=by
 unfold gU at h;split at h
 ·exact .inr ⟨x,h,rfl⟩
 ·split at h
  ·exact EO h
  ·exact .inr ⟨x,(jw.1 h).1,rfl⟩
def Kp(X Y:SpV):Prop:=Y.R=X.R/\Y.n=X.n/\∀x,(Y.K x).isSome=(X.K x).isSome
theorem Kp.GV:Kp X X:=⟨rfl,rfl,λ_=>rfl⟩
theorem Kp.trans{Z:SpV}(h:Kp X Y)(k:Kp Y Z):Kp X Z:=⟨k.1.trans h.1,k.2.1.trans h.2.1,λx=>(k.2.2 x).trans (h.2.2 x)⟩
theorem m9:Kp X (cm X r t):=⟨je.1,je.2,λ_=>jz⟩
theorem vJ(h:Kp X Y):aT Y E k=aT X E k:=by unfold aT;rw[h.1]
theorem Few.RS(h:Few X b E)(g:X.R r.dst=some r)(i:bB r t∈(E r.src).map (bB r)):Few (cm X r t) b E:=
 ⟨h.len,λk e a x f=>by
  rw[vJ m9];unfold cm at a;split at a
  ·rename_i s d m j;rw[fh]at a;split at a
   ·rename_i q;subst q;injection a with a;subst a;rcases Lg f with q|⟨y,l,q⟩
    ·rw[q];unfold aT;rw[g];exact i
    ·rw[<-q];exact h.mem _ d j y l
   ·exact h.mem k e a x f
  ·exact h.mem k e a x f⟩
theorem ux{e a:fF}(h:X.K k=some e):Kp X (fX X k a):=⟨rfl,rfl,λx=>by
 rw[fh];by_cases q:x=k
 ·subst q;rw[if_pos rfl,h];rfl
 ·rw[if_neg q]⟩
theorem yw:Kp X (cY k was t X r):=by
 unfold cY;split
 ·exact m9.trans m9
 ·exact m9
theorem rG:∀(a:List Rl) {X:SpV},Kp X (a.foldl (cY k was t) X)
 | [],_=> .GV
 |_::a,_=>yw.trans (rG a)
theorem Few.steps(e:was∈E k)(f:t∈E k):∀(a:List Rl) {X:SpV},Few X b E->(∀r∈a,X.R r.dst=some r/\r.src=k)->Few (a.foldl (cY k was t) X) b E
 | [],_,h,_=>h
 |r::a,X,h,g=>by
  obtain⟨d,i⟩:=g r q0b;have l:bB r was∈(E r.src).map (bB r):=by rw[i];exact q0e.2 ⟨_,e,rfl⟩
  have j:bB r t∈(E r.src).map (bB r):=by rw[i];exact q0e.2 ⟨_,f,rfl⟩
  refine Few.steps e f a (X:=cY k was t X r) ?_ λq m=>?_
  ·unfold cY;split
   ·exact(h.RS d l).RS (by rw[je.1];exact d) j
   ·exact h.RS d j
  ·rw[(yw (X:=X)).1];exact g q (Y4 _ m)
theorem tu{s:Int×SpV}{x:Int×Int}:Kp s.2 (cM r s x).2:=by
 unfold cM;split
 ·exact m9
 ·exact .GV
theorem tv:∀(L:Smp) {s:Int×SpV},Kp s.2 (L.foldl (cM r) s).2
 | [],_=> .GV
 |_::L,_=>tu.trans (tv L)
theorem Few.Vt:∀(L:Smp) {s:Int×SpV},Few s.2 b E->s.2.R r.dst=some r->(∀x∈L,x.1∈E r.src)->Few (L.foldl (cM r) s).2 b E
 | [],_,h,_,_=>h
 |x::L,s,h,a,d=>by
  refine Few.Vt L (s:=cM r s x) ?_ ?_ λy e=>d y (Y4 _ e)
  ·unfold cM;split
   ·refine h.RS a ?_;rw[RR];exact q0e.2 ⟨_,d x q0b,rfl⟩
   ·exact h
  ·rw[(tu (s:=s)).1];exact a
theorem Ak{gone:Smp}:∀(a:List Rl) {X:SpV},Kp X (a.foldl (dF gone) X)
 | [],_=> .GV
 |r::a,X=>(show Kp X (dF gone X r) from tv gone).trans (Ak a)
theorem Few.XY{gone:Smp}(d:∀x∈gone,x.1∈E k):∀(a:List Rl) {X:SpV},Few X b E->(∀r∈a,X.R r.dst=some r/\r.src=k)->Few (a.foldl (dF gone) X) b E
 | [],_,h,_=>h
 |r::a,X,h,e=>by
  obtain⟨f,g⟩:=e r q0b;refine Few.XY d a (X:=dF gone X r) (Few.Vt gone (s:=(-1,X)) h f λx i=>by rw[g];exact d x i) λq j=>?_
  rw[(show Kp X (dF gone X r) from tv gone).1];exact e q (Y4 _ j)
structure Inv(X:SpV)(b:Nat):Prop where
 links:Links X
 noch:Vs X
 n:X.n<=b
 few:∃E,Few X b E
theorem Inv.mono{a:Nat}(h:Inv X b)(d:b<=a):Inv X a:=⟨h.links,h.noch,Y7 h.n d,h.few.elim λE e=>⟨E,λk=>Y7 (e.len k) d,e.mem⟩⟩
theorem Inv.bnd(h:Inv X b)(a:bE X c):Bnd X b:=h.few.elim λ_ e=>e.bnd a
theorem Inv.no:Inv mw 0:=⟨λ_ _ h=>(by cases h),λ_ _ h=>(by cases h),Z6 _,λ_=> [],λ_=>Z6 _,λ_ _ h=>(by cases h)⟩
theorem Inv.dQ{f:Nat}(h:Inv X b)(a:Kp X Y)(g:b<=f)(i:∃E,Few Y f E):Inv Y f:=
 ⟨λd r e=>by rw[a.1]at e;rw[a.2.2,a.2.2];exact h.links d r e,λd r e=>by rw[a.1]at e⊢;exact h.noch d r e,by rw[a.2.1];exact Y7 h.n g,i⟩
theorem B9(h:cz X k=0):X.R k=none:=by
 unfold cz at h;split at h
 ·split at h
  ·cases h
  ·rename_i q;cases e:X.R k with
   |none=>rfl
   |some r=>rw[e]at q;exact absurd rfl q
 ·cases h
theorem Inv.add(h:Inv X b)(n:bE X c)(k:Tx)(t v p:Int):Inv (fk X k t v p).1 (b+2):=by
 have j:=h.mono (q0u b 2);unfold fk;split
 ·exact j
 ·rename_i g;have o:=B9 (q3o g);split
  ·exact j
  ·rename_i e l;split
   ·exact j
   ·obtain⟨E,i⟩:=h.few;have a:Kp X (GK X k e t v p):=ux l;refine h.dQ (a.trans (rG _)) (q0u b 2) ⟨λx=>if x=k then t::e.S.mx::E k else E x,Few.steps (by simp) (by simp) _ ⟨λx=>?_,λx y d z m=>?_⟩ λr s=>?_⟩
    ·split
     ·have:=i.len k;simp only[Z9];omega
     ·have:=i.len x;omega
    ·have up:∀u,u∈aT X E x->u∈aT X (λx=>if x=k then t::e.S.mx::E k else E x) x:=λu f=>by
      unfold aT at f⊢;split at f
      ·dsimp only;split
       ·rename_i q;subst q;exact Y4 _ (Y4 _ f)
       ·exact f
      ·obtain⟨w,g,rfl⟩:=q0e.1 f;refine q0e.2 ⟨w,?_,rfl⟩;dsimp only;split
       ·rename_i q;rw[q]at g;exact Y4 _ (Y4 _ g)
       ·exact g
     rw[vJ a];unfold GK at d;rw[fh]at d;split at d
     ·rename_i q;subst q;injection d with d;subst d;rcases EO m with q|⟨u,f,q⟩
      ·rw[q];unfold aT;rw[o];simp
      ·rw[<-q];exact up _ (i.mem x e l u f)
     ·exact up _ (i.mem x y d z m)
    ·rw[a.1];exact n.rF.1 s
theorem Inv.del(h:Inv X b)(j:bE X c)(k:Tx)(x y:Int):Inv (tp X k x y).1 b:=by
 unfold tp;split
 ·exact h
 ·rename_i l;have m:=B9 (q3o l);split
  ·exact h
  ·rename_i e i;obtain⟨E,f⟩:=h.few;have a:Kp X (fX X k {e with L:=aR e.L x y}):=ux i;refine h.dQ (a.trans (Ak _)) (Z6 b) ⟨E,Few.XY (k:=k) (λz g=>?_) _ ⟨f.len,λu w d z g=>?_⟩ λr n=>?_⟩
   ·have:=f.mem k e i z (xQ.1 g).1;unfold aT at this;rw[m]at this;exact this
   ·rw[vJ a];rw[fh]at d;by_cases q:u=k
    ·rw[if_pos q]at d;subst q;injection d with d;subst d;exact f.mem u e i z (jw.1 g).1
    ·rw[if_neg q]at d;exact f.mem u w d z g
   ·rw[a.1];exact j.rF.1 n
theorem Inv.inc(h:Inv X b)(d:bE X c)(k:Tx)(t y:Int):Inv (tq X k t y).1 (b+2):=by
 have a:=h.mono (q0u b 2);unfold tq;split
 ·exact a
 ·split
  ·exact a
  ·split
   ·exact a
   ·split
    ·exact a
    ·split
     ·exact a
     ·split<;>exact h.add d _ _ _ _
theorem Inv.cr(h:Inv X b){y:fF}(l:∀x∈y.L,∃e,X.K k=some e/\x∈e.L):Inv (crK X k y) (b+2):=by
 have g:∀x,(X.K x).isSome=true->((crK X k y).K x).isSome=true:=λx m=>by
  show(if x=k then some y else X.K x).isSome=true;split
  ·rfl
  ·exact m
 obtain⟨E,f⟩:=h.few;refine⟨λd r i=>⟨g _ (h.links d r i).1,g _ (h.links d r i).2⟩,h.noch,?_,E,λx=>?_,λx e o z j=>?_⟩
 ·have:=h.n;show X.n+1<=b+2;omega
 ·have:=f.len x;omega
 ·have a:(if x=k then some y else X.K x)=some e:=o;show z.1∈aT X E x;by_cases q:x=k
  ·rw[if_pos q]at a;injection a with a;subst a q;obtain⟨p,s,u⟩:=l z j;exact f.mem x p s z u
  ·rw[if_neg q]at a;exact f.mem x e a z j
theorem Inv.create(h:Inv X b)(k:Tx)(z ret pol:Int)(l:List Lab):Inv (crF X k z ret pol l).1 (b+2):=by
 have a:=h.mono (q0u b 2);unfold crF;split
 ·exact a
 ·split
  ·split
   ·exact a
   ·exact h.cr λx d=>(by cases d)
  ·exact a
theorem Inv.alter(h:Inv X b)(k:Tx)(ret pol:Int)(l:List Lab):Inv (vj X k ret pol l).1 (b+2):=by
 have a:=h.mono (q0u b 2);unfold vj;split
 ·exact a
 ·rename_i e d;split
  ·split
   ·exact a
   ·exact h.cr λx f=>⟨e,d,O4 f⟩
  ·exact a
theorem Inv.SW(h:Inv X b)(f:∀d r,Y.R d=some r->X.R d=some r)(j:∀x e,Y.K x=some e->X.K x=some e)(l:Links Y)(hn:Y.n<=b):Inv Y b:=by
 obtain⟨E,g⟩:=h.few;refine⟨l,λd r m=>?_,hn,λx=>aT X E x,λx=>O1 g,λx e o z p=>?_⟩
 ·have:=h.noch d r (f d r m);cases q:Y.R r.src with
  |none=>rfl
  |some y=>rw[f _ _ q]at this;cases this
 ·have s:=g.mem x e (j x e o) z p
  have key:∀w,z.1∈aT X E x->aT Y (aT X E) x=w->z.1∈w:=λw a u=>by
   subst u;unfold aT;cases q:Y.R x with
   |none=>exact a
   |some r=>
    have i:=f x r q;have v:=h.noch x r i;dsimp only;rw[v];unfold aT at a;rw[i]at a;exact a
  exact key _ s rfl
theorem Inv.unl(h:Inv X b)(s d:Tx):Inv (uv X s d).1 b:=by
 unfold uv;split
 ·exact h
 ·split
  ·have e:∀x r,(qo X d none).R x=some r->X.R x=some r:=λx r a=>by
    have a:(if x=d then none else X.R x)=some r:=a;split at a
    ·cases a
    ·exact a
   exact h.SW e (λ_ _ f=>f) (λx r a=>h.links x r (e x r a)) h.n
  ·exact h
theorem Inv.drop(h:Inv X b)(l:bE X c)(k:Tx):Inv (kK X k) b:=by
 unfold kK;split
 ·have i:∀d r,(match X.R d with
   |some r=>if qF k r=true then none else some r
   |none=>none)=some r->X.R d=some r/\qF k r=false:=λd r a=>by
   split at a
   ·rename_i s m;split at a
    ·cases a
    ·rename_i q;injection a with a;subst a;exact⟨m,by simpa using q⟩
   ·cases a
  refine h.SW (λd r a=>(i d r a).1) (λx e f=>?_) (λd r a=>?_) h.n
  ·dsimp only at f;split at f
   ·cases f
   ·exact f
  ·obtain⟨j,g⟩:=i d r a;have hd:=l.IN j;unfold qF at g;simp only[Bool.or_eq_false_iff,decide_eq_false_iff_not]at g;obtain⟨o,p⟩:=h.links d r j;dsimp only;rw[if_neg g.1,if_neg (by rw[<-hd];exact g.2)];exact⟨o,p⟩
 ·exact h
theorem Inv.link(h:Inv X b)(B:bE X c)(r:Rl):Inv (lkF X r).1 (b+2):=by
 have W:=h.mono (q0u b 2)
 have C:(rlF X r).2≠0->(rlF X r).1=X:=by
  unfold rlF
  repeat' split
  all_goals first|exact λ_=>rfl|exact λq=>absurd rfl q
 unfold lkF;split
 ·rename_i q;rw[C q];exact W
 ·rename_i q
  have key:cS r=true/\(X.K r.src).isSome=true/\(X.K r.dst).isSome=true/\X.R r.src=none/\ofX X r.dst=[]/\(rlF X r).1={qo X r.dst (some r)with n:=X.n+1}:=by
   have q:=q3o q;unfold rlF at q⊢;split at q
   ·rename_i P;split at q
    ·rename_i D;split at q
     ·cases q
     ·rename_i Z;split at q
      ·cases q
      ·rename_i y;rw[if_pos P,if_pos D,if_neg Z,if_neg y];refine⟨P,D.1,D.2,?_,?_,rfl⟩
       ·cases e:X.R r.src with
        |none=>rfl
        |some u=>rw[e]at y;exact absurd (Or.inl rfl) y
       ·cases e:ofX X r.dst with
        |nil=>rfl
        |cons u l=>rw[e]at y;exact absurd (Or.inr (by simp)) y
    ·cases q
   ·cases q
  obtain⟨k1,Q,S,T,k5,k6⟩:=key;obtain⟨d,hd⟩:=q0n.1 S;obtain⟨s,U⟩:=q0n.1 Q;have F:=m8 k1;obtain⟨E,G⟩:=h.few;rw[k6];have e1:({qo X r.dst (some r)with n:=X.n+1}:SpV).K r.dst=some d:=hd;have e2:({qo X r.dst (some r)with n:=X.n+1}:SpV).K r.src=some s:=U;rw[e1,e2];dsimp only;have g:∀x,({qo X r.dst (some r)with n:=X.n+1}:SpV).R x=if x=r.dst then some r else X.R x:=λ_=>rfl
  have H:Links ({qo X r.dst (some r)with n:=X.n+1}:SpV):=λx u a=>by
   rw[g]at a;split at a
   ·rename_i w;injection a with a;subst a w;exact⟨Q,S⟩
   ·exact h.links x u a
  have I:Vs ({qo X r.dst (some r)with n:=X.n+1}:SpV):=λx u a=>by
   rw[g]at a;rw[g];split at a
   ·rename_i w;injection a with a;subst a;rw[if_neg F];exact T
   ·rw[if_neg ?_]
    ·exact h.noch x u a
    ·intro w;have:u∈ofX X r.dst:=B.rF.2 ⟨by rw[B.IN a];exact a,w⟩;rw[k5]at this;cases this
  have p:Links ({qo X r.dst (some r)with n:=X.n+1}:SpV)/\Vs ({qo X r.dst (some r)with n:=X.n+1}:SpV):=⟨H,I⟩;obtain⟨f,i⟩:∃f,f=({qo X r.dst (some r)with n:=X.n+1}:SpV):=⟨_,rfl⟩;have A:f.K=X.K:=by rw[i];rfl
  have J:f.R r.dst=some r:=by rw[i,g,if_pos rfl]
  have M:∀x,x≠r.dst->f.R x=X.R x:=λx N=>by rw[i,g,if_neg N]
  have hn2:f.n<=b+1:=by rw[i];exact q3z h.n
  rw[<-i]at p⊢;have v:Kp f (EF f r.dst d):=ux (by rw[A];exact hd);have j:Kp f (tn r (EF f r.dst d) (bJ 0 1099511627776 s.L)).2:=v.trans (tv _)
  have hf:Few (EF f r.dst d) (b+2) E:=⟨λx=>Y7 (G.len x) (q0u b 2),λx e m z V=>by
   rw[vJ v];unfold EF at m;rw[fh]at m;split at m
   ·injection m with m;subst m;have o:=jw.1 V;have h4:=((B.ser _ _ hd).dR z o.1).1;omega
   ·rename_i w;rw[A]at m;have o:=G.mem x e m z V;unfold aT at o⊢;rw[M x w];exact o⟩
  have O:=Few.Vt (r:=r) (bJ 0 1099511627776 s.L) (s:=(-1,EF f r.dst d)) hf (by rw[v.1];exact J) λx N=>by
   have o:=G.mem r.src s U x (xQ.1 N).1;unfold aT at o;rw[T]at o;exact o
  exact⟨λx u a=>by rw[j.1]at a;rw[j.2.2,j.2.2];exact p.1 x u a,λx u a=>by rw[j.1]at a⊢;exact p.2 x u a,by rw[j.2.1];omega,E,O⟩
end
end Go.Proofs.YtflehenfikoniaaGreat
end
