/- Texts of our own, joined: the engine, the machine that runs code, and what is known of the functions. -/
import Derived.Test.YtflehenfikoniaaGreatRows
import Derived.WalkKit
import Derived.Deep.Quiet
import Derived.ProofKit
import Derived.Laws.StructEq
import Derived.LaidEql
import Derived.Laws.BytesArg
import Derived.Maps.RangeRun
import Derived.RangeFuncSeq
import Derived.Scope
import Derived.Laws.Strings
import Derived.Laws.Strings2
import Derived.Below
import Derived.Carry
import Derived.OpenShut
import Derived.ChangeMaps5
import Derived.Deep.Slices
import Derived.Deep.SlicePairs
import Derived.SizedLaws
import Derived.Laws.BitsAllLaws
import Derived.RangeFuncRecord
import Derived.Test.YtflehenfikoniaaGreatJd
import Derived.Test.YtflehenfikoniaaGreatJc
set_option linter.unusedSimpArgs false
set_option linter.unusedVariables false
set_option maxHeartbeats 16000000
set_option maxRecDepth 100000
noncomputable section
namespace Go.Proofs.YtflehenfikoniaaGreat
open Go Go.RowKit
section
variable {K V:Type} [DecidableEq K]
def eg(A:List (K×V))(k:K)(v:V):List (K×V):=match gz k A 0 with
 |none=>A++ [(k,v)]
 |some (i,_)=>A.set i (k,v)
def dq(A:List (K×V))(k:K):List (K×V):=match gz k A 0 with
 |none=>A
 |some (i,_)=>A.eraseIdx i
theorem Ef(m:MpC K V)(k:K)(v:V):(m.put k v).A=eg m.A k v:=by unfold MpC.put eg;split<;>simp_all
theorem xP(m:MpC K V)(k:K):(m.del k).A=dq m.A k:=by unfold MpC.del dq;split<;>simp_all
theorem p6{A:List (K×V)}{k:K}(h:aD A k=none):dq A k=A:=by
 unfold aD at h;rw[q4j]at h;unfold dq;rw[h]
theorem bb{kA:K->AV}{g:V->AV}{a:TypeDesc}{P:Program}{t d c:TypeId}{H:AH}{b:Nat}{m:MpC K V}{k:K}{ok:Bool}{z:Value}{x y:AV}{r:Option V}(e:xO kA a)(f:dO P t=some (d,a,c))(h:x= .map b)(i:y=kA k)(j:H.get b=some (m.O kA g))(l:c7 P c=some z)(n:aD m.A k=r):jw P t x y ok H=some (lkV ok (ofV z) (r.map g)):=by subst n;exact Rf e f h i j l
end
theorem mc:∀(A B:List Tx),(br false A B).length<=A.length
 | [],B=>by rw[gv];simp
 |a::A,[]=>by rw[gx];simp
 |a::A,b::B=>by
  by_cases h:leS a b=true
  ·by_cases k:leS b a=true
   ·have:=mc A B;rw[mU A B h k];simp only[q2h,if_false,q2m,q0a];omega
   ·have:=mc A (b::B);rw[mT A B h k];simp only[q0a];omega
  ·have:=mc (a::A) B;rw[mV A B h];simpa using this
termination_by A B=>A.length+B.length
theorem IA(V:List Tx)(s:Tx):(BA V s).length<=V.length:=q0d (mc _ _) (cw V)
def gL(l:List Lab):AV:= .fr l.length 2 (cM l)
def gS(V:List Tx):AV:= .fr V.length 1 (strs V)
structure Ix where
 A:List (Tx×List Lab)
 w:Nat
abbrev IxC:=MpC Tx (List Lab)×MpC Lab (List Tx)×MpC Tx (List Tx)
def ixO(c:IxC):List AO:=[.cells [.map 1,.map 2,.map 3] true,c.1.O kT gL,c.2.1.O kL gS,c.2.2.O kT gS]
def Rows{K:Type}(m:MpC K (List Tx))(w:Nat):Prop:=∀e∈m.A,e.2.length<=w
structure Oj(x:Ix)(c:IxC):Prop where
 A:c.1.A=x.A
 o1:c.1.Ok
 o2:c.2.1.Ok
 o3:c.2.2.Ok
 r2:Rows c.2.1 x.w
 r3:Rows c.2.2 x.w
 lab:∀e∈x.A,iu e.1=true/\dR e.2=true
theorem bK{j:Nat}(k:Tx):ltV j (kT k)=true:=rfl
theorem xQ{j:Nat}(k:Lab):ltV j (kL k)=true:=rfl
theorem xR{j:Nat}(l:List Lab):ltV j (gL l)=true:=rfl
theorem kl{j:Nat}(V:List Tx):ltV j (gS V)=true:=rfl
def IxB:Obj Ix IxC where
 ok:=Oj
 O:=ixO
 k:=4
 len _:=rfl
 own c o h:=by
  simp only[ixO,Z5,Z4,or_false]at h;rcases h with rfl|rfl|rfl|rfl
  ·exact⟨rfl,rfl⟩
  ·exact⟨rfl,aC bK xR⟩
  ·exact⟨rfl,aC xQ kl⟩
  ·exact⟨rfl,aC bK kl⟩
 pos c:=⟨_,_,_,rfl⟩
theorem sN{H:AH}{c:IxC}(a:H.get 0=some (.cells [.map 1,.map 2,.map 3] true))(b:H.get 1=some (c.1.O kT gL))(d:H.get 2=some (c.2.1.O kL gS))(e:H.get 3=some (c.2.2.O kT gS)):xC H 4 (ixO c) 0:=
 ⟨⟨_,a,.refl rfl⟩,⟨_,b,.refl (aC bK xR)⟩,⟨_,d,.refl (aC xQ kl)⟩,⟨_,e,.refl (aC bK kl)⟩,trivial⟩
theorem mkA:dO Tryz.prog 162=some (9,.string,28):=by kernel_rfl
theorem mkN:dO Tryz.prog 164=some (9,.string,58):=by kernel_rfl
theorem mkL:∃a,dO Tryz.prog 163=some (100,.struct a,58)/\jZ a=[(1,0),(1,1)]:=⟨Tryz.prog.fieldsOf 100,by kernel_rfl,by kernel_rfl⟩
theorem Gm:c7 Tryz.prog 28=some (.slice none 0 0):=by kernel_rfl
theorem zTx:c7 Tryz.prog 58=some (.slice none 0 0):=by kernel_rfl
section
variable {K:Type} [DecidableEq K] {m:MpC K (List Tx)} {w:Nat}
theorem Rows.get(h:Rows m w)(k:K):((aD m.A k).getD []).length<=w:=by
 cases e:aD m.A k with
 |none=>simp
 |some V=>exact h _ (bJ e)
theorem Rows.put(h:Rows m w){k:K}{V:List Tx}(b:V.length<=w):Rows (m.put k V) w:=λe a=>by
 rcases nU a with rfl|a
 ·exact b
 ·exact h e a
theorem Rows.del(h:Rows m w){k:K}:Rows (m.del k) w:=λe a=>h e (BD a)
end
theorem Rows.le{K:Type}{m:MpC K (List Tx)}{w:Nat}(h:Rows m w){w':Nat}(a:w<=w'):Rows m w':=λe b=>q0d (h e b) a
def oq{K:Type} [DecidableEq K](m:MpC K (List Tx))(k:K)(V:List Tx):MpC K (List Tx):=if V.length=0 then m.del k else m.put k V
theorem vm{K:Type} [DecidableEq K]{m:MpC K (List Tx)}{w:Nat}{k:K}{V:List Tx}(h:m.Ok)(a:Rows m w)(b:V.length<=w):(oq m k V).Ok/\Rows (oq m k V) w:=by
 unfold oq;split
 ·exact⟨h.del k,a.del⟩
 ·exact⟨h.put k V,a.put b⟩
def zJ{K:Type} [DecidableEq K](kA a:K->AV)(args:List AV)(H:AH)(n:Nat)(κ:PK):Prop:=match args with
 | [x,y,z]=>∃(b:Nat) (m:MpC K (List Tx)) (k:K) (V:List Tx),x= .map b/\b<n/\n<900000/\y=a k/\z=gS V/\H.get b=some (m.O kA gS)/\κ (.tup []) (H.set (some ((oq m k V).O kA gS)) aa b) n
 |_=>False
theorem Ol {K:Type} [DecidableEq K] {kA g:K->AV} (E:∀k,gj (g k)=true) (C:∀k j,ltV j (kA k)=true) {f:FuncId} {run:List AV->AH->Nat->PK->Prop} (p:al f run) (y:bR Tryz.prog f=true)
 (h:∀(m:MpC K (List Tx)) (k:K) (V:List Tx),run [.map 0,g k,gS V] (mkH [(0,m.O kA gS)]) 1 λu H' _=>u= .tup []/\H'.get 0=some ((oq m k V).O kA gS)):al f (zJ kA g):=λargs H n D v P Q R T K F d G=>by
 unfold zJ at v;split at v
 ·obtain⟨b,m,k,V,rfl,z,U,rfl,rfl,I,A⟩:=v
  have t:∀{o:AO} {r:Nat->Nat},(∃m:MpC _ (List Tx),o=m.O kA gS)->bT r o=o:=λ{o r} ⟨m,e⟩=>by
   subst e;exact(eG (m:=0) (λc J=>absurd J (q0o c)) (aC (λk=>C k 0) kl)).trans (vl _)
  refine dz (S:=[b]) (O:=[m.O kA gS]) (args0:=[.map 0,g k,gS V]) (κ:=D) p y F ⟨by simp,rfl,λi s o l a=>?_⟩ ?_ G (h m k V) λu H' W ⟨L,M⟩=>?_
  ·cases i with
   |zero=>injection l with l;injection a with a;subst l a;exact⟨z,I.trans (congrArg some (t ⟨m,rfl⟩).symm),.inr rfl⟩
   |succ i=>simp at l
  ·have e:dw (bq [b] n) [.map 0,g k,gS V]=[.map b,g k,gS V]:=by simp only[dw,(iU (m:=0) (E k)).1];rfl
   rw[e];exact d
  ·subst L;refine⟨1,H.set (some ((oq m k V).O kA gS)) aa b,Z3 1,λx o N=>?_,rfl,A⟩;rcases PM.an aa H b x o N with⟨rfl,a⟩|⟨l,a⟩
   ·injection a with a;subst a;exact .inl ⟨0,_,Nat.zero_lt_one,rfl,M,rfl,aC (λk=>C k 1) kl,(t ⟨_,rfl⟩).symm⟩
   ·exact .inr ⟨by simp;omega,a,λq=>absurd (by simpa using q) l⟩
 ·exact v.elim
def kTs(s:Tx):AV:= .ss s
def kLs(y:Lab):AV:= .agg [.ss y.1,.ss y.2]
theorem IB{K:Type} [DecidableEq K]{m:MpC K (List Tx)}{k:K}{V:List Tx}{kA:K->AV}:((V.length:Int)=0->(m.del k).O kA gS=(oq m k V).O kA gS)/\(¬(V.length:Int)=0->(m.put k V).O kA gS=(oq m k V).O kA gS):=
 ⟨λh=>by unfold oq;rw[if_pos (by omega)],λh=>by unfold oq;rw[if_neg (by omega)]⟩
theorem UU:al 127 (zJ kT kTs):=Ol (λ_=>rfl) (λ_ _=>rfl) (ay az 3 _) (by kernel_rfl) λm k V=>by
 have q:=IB (m:=m) (k:=k) (V:=V) (kA:=kT)
 conv=>whnf
 refine ag.dec (λz=>?_) (λz=>?_)
 ·have e:=q.1 z
  conv=>whnf
  refine Ask.mk _ (tV (m:=m) (g:=gS) bP mkN rfl rfl rfl) ?_
  conv=>whnf
  exact⟨rfl,congrArg some e⟩
 ·have e:=q.2 z
  conv=>whnf
  refine Ask.mk _ (rm (m:=m) (g:=gS) bP mkN rfl rfl rfl rfl) ?_
  conv=>whnf
  exact⟨rfl,congrArg some e⟩
theorem UW:al 125 (zJ kL kLs):=Ol (λ_=>rfl) (λ_ _=>rfl) (ay az 3 _) (by kernel_rfl) λm k V=>by
 have q:=IB (m:=m) (k:=k) (V:=V) (kA:=kL);obtain⟨d,a,b⟩:=mkL
 conv=>whnf
 refine ag.dec (λz=>?_) (λz=>?_)
 ·have e:=q.1 z
  conv=>whnf
  refine Ask.mk _ (tV (m:=m) (g:=gS) (Iz b) a rfl rfl rfl) ?_
  conv=>whnf
  exact⟨rfl,congrArg some e⟩
 ·have e:=q.2 z
  conv=>whnf
  refine Ask.mk _ (rm (m:=m) (g:=gS) (Iz b) a rfl rfl rfl rfl) ?_
  conv=>whnf
  exact⟨rfl,congrArg some e⟩
def ixD (k:Tx) (l:List Lab) (i:Nat) (c:IxC):AE×AH:=(mkE [(0,.ptr 0 (0)),(1,.ss (k)),(16,.fr l.length 2 (cM l)),(17,.si .i64 ((l.length:Int))),(18,.si .i64 ((i:Int)))],mkH [(0,.cells [.map 1,.map 2,.map 3] true),(1,c.1.O kT gL),(2,c.2.1.O kL gS),(3,c.2.2.O kT gS)])
theorem IC{k:Tx}{l:List Lab}{i:Nat}{c:IxC}{p n:Nat}{σ:AE}{H:AH}(e:p<=4)(e0:ai (pa 0) σ= .ptr 0 (0))(f:mk (ai (pa 1) σ)= .ss (k))(a:ai (pa 16) σ= .fr l.length 2 (cM l))(b:mk (ai (pa 17) σ)= .si .i64 ((l.length:Int)))(d:mk (ai (pa 18) σ)= .si .i64 ((i:Int)))(g:H.get 0=some (.cells [.map 1,.map 2,.map 3] true))(h:H.get 1=some (c.1.O kT gL))(j:H.get 2=some (c.2.1.O kL gS))(o:H.get 3=some (c.2.2.O kT gS)):Cov p σ H n ((ixD k l i c).1,(ixD k l i c).2,4):=
 Cov.ofA e ⟨.ptr (by decide) e0,.str f,ae.frE a,.int b,.int d,trivial⟩ ⟨.inl ⟨_,g,ak.refl rfl⟩,.inl ⟨_,h,ak.refl (aC bK xR)⟩,.inl ⟨_,j,ak.refl (aC xQ kl)⟩,.inl ⟨_,o,ak.refl (aC bK kl)⟩,trivial⟩ rfl
def Om:DT:=[(6,[(some 0,[0]),(some 0,[22]),(some 0,[23]),(some 0,[24]),(some 0,[6]),(some 0,[0]),(some 0,[27]),(some 0,[28]),(some 0,[29]),(some 0,[6]),(some 0,[30,31]),(some 0,[1]),(none,[32,33])]),
 (7,[(some 0,[0]),(some 0,[36]),(some 0,[37]),(some 0,[38]),(some 0,[6]),(some 0,[40]),(some 0,[0]),(some 0,[42]),(some 0,[43]),(some 0,[44]),(some 0,[6]),(some 0,[46]),(some 0,[45,47]),(some 0,[1]),(none,[48,49])])]
def KIx:FuncId->EP:=da 166 (uJ UQ) (da 126 (uJ W9) (da 167 (uJ SX) (ao 105 (bV Eb) (ao 106 (bV US) (ao 124 (bV UR) (ao 127 (zJ kT kTs) (ao 125 (zJ kL kLs) evP)))))))
theorem Gn:aS KIx:=bf (bf (bf (ab (ab (ab (ab (ab az UW) UU) SW) Xd) Iu) Xf.cs (xB _)) YI.cs (xB _)) Xa.cs (xB _)
def KId:FuncId->EP:=aX 68 Om KIx
theorem On:aS KId:=au Gn (by kernel_rfl) (by kernel_rfl)
def Rg(x:Ix)(cs:List AV)(a:Ix)(v:AV):Prop:=∃k,cs=[.ss k]/\x.w<900000/\a=⟨dq x.A k,x.w⟩/\v= .sb (aD x.A k).isSome
theorem xS(x:Ix)(k:Tx)(c:IxC)(G:Oj x c)(o:x.w<900000):ax KId 5 68 [.ptr 0 0,.ss k] (mkH (bE (ixO c) 0)) 4 (gm IxB ⟨dq x.A k,x.w⟩ (.sb (aD x.A k).isSome)):=by
 obtain⟨T,H,I⟩:=mkL;obtain⟨v,z,B,C,p,r,f⟩:=G;obtain⟨A,w⟩:=x;dsimp only at v p r f o⊢;subst v;cases d:aD c.1.A k with
 |none=>
  have e:=p6 d;have q:gm IxB ⟨dq c.1.A k,w⟩ (.sb false) (.bool false) (mkH (bE (ixO c) 0)) 4:=⟨_,c,.told rfl,⟨e.symm,z,B,C,p,r,by rw[e];exact f⟩,sN rfl rfl rfl rfl⟩
  conv=>whnf
  refine Ask.mk _ (bb bP mkA rfl rfl rfl Gm d) ?_
  conv=>whnf
  exact q
 |some l=>
  have J:l.length<=8:=nR (f _ (bJ d)).2
  conv=>whnf
  refine Ask.mk _ (bb bP mkA rfl rfl rfl Gm d) ?_
  conv=>whnf
  refine Ask.mk _ (bb bP mkA rfl rfl rfl Gm d) ?_
  conv=>whnf
  refine aN.mk {t:Nat×MpC Lab (List Tx)×MpC Tx (List Tx)//t.1<=l.length/\(t.2.1.Ok/\Rows t.2.1 w)/\t.2.2.Ok/\Rows t.2.2 w} 4 (λt=>ixD k l t.val.1 (c.1,t.val.2)) (λt=>l.length-t.val.1) ⟨(0,c.2),Z9 _,⟨B,p⟩,C,r⟩ ?_ ?_
  focus
   exact IC (i:=0) (c:=c) (Z3 4) rfl rfl rfl rfl rfl rfl rfl rfl rfl
  intro⟨(i,a,b),D,⟨E,j⟩,F,n⟩;have D:i<=l.length:=D;have L:IntKind.i64.wrap ((i:Int)+1)=((i+1:Nat):Int):=by rw[aj (by omega) (by omega)];omega
  conv=>whnf
  refine ag.dec (λh=>?_) (λh=>?_)
  focus
   have s:i<l.length:=q0v.1 h;have u:l.length-(i+1)<l.length-i:=by omega
   have M:(BA ((aD a.A l[i]).getD []) k).length<=w:=q0d (IA _ _) (j.get _);have N:(BA ((aD b.A l[i].1).getD []) k).length<=w:=q0d (IA _ _) (n.get _);have O:((aD a.A l[i]).getD []).length<1000000:=Nat.lt_of_le_of_lt (j.get _) (by omega);have P:((aD b.A l[i].1).getD []).length<1000000:=Nat.lt_of_le_of_lt (n.get _) (by omega);have Q:=vm (k:=l[i]) E j M;have R:=vm (k:=l[i].1) F n N
   conv=>whnf
   refine Idx.mk i rfl s ?_
   conv=>whnf
   refine aq (pq s rfl) ?_
   conv=>whnf
   refine Ask.mk _ (bb (m:=a) (g:=gS) (k:=l[i]) (Iz I) H rfl rfl rfl zTx rfl) ?_
   conv=>whnf
   refine⟨_,_,.cons (.opt (g:=gS) rfl _) (.cons .same .nil),⟨_,_,rfl,O,rfl⟩,?_⟩
   conv=>whnf
   refine⟨2,a,l[i],_,rfl,by decide,by decide,rfl,rfl,rfl,?_⟩
   conv=>whnf
   refine Ask.mk _ (bb (m:=b) (g:=gS) (k:=l[i].1) bP mkN rfl rfl rfl zTx rfl) ?_
   conv=>whnf
   refine⟨_,_,.cons (.opt (g:=gS) rfl _) (.cons .same .nil),⟨_,_,rfl,P,rfl⟩,?_⟩
   conv=>whnf
   refine⟨3,b,l[i].1,_,rfl,by decide,by decide,rfl,rfl,rfl,?_⟩
   conv=>whnf
   exact⟨⟨(i+1,oq a l[i] (BA ((aD a.A l[i]).getD []) k),oq b l[i].1 (BA ((aD b.A l[i].1).getD []) k)),s,Q,R⟩,u,IC (i:=i+1) (c:=(c.1,oq a l[i] (BA ((aD a.A l[i]).getD []) k),oq b l[i].1 (BA ((aD b.A l[i].1).getD []) k))) (Z3 4) rfl rfl rfl rfl (congrArg (AV.si .i64) L) rfl rfl rfl rfl⟩
  have e:(c.1.del k).A=dq c.1.A k:=xP _ _;have q:Oj ⟨dq c.1.A k,w⟩ (c.1.del k,a,b):=⟨e,z.del k,E,F,j,n,λy S=>f y (BD (by rw[e];exact S))⟩
  conv=>whnf
  refine Ask.mk _ (tV (m:=c.1) bP mkA rfl rfl rfl) ?_
  conv=>whnf
  exact⟨_,(c.1.del k,a,b),.told rfl,q,sN rfl rfl rfl rfl⟩
theorem Oo:al 68 (cK 4 IxB Rg):=gu On 5 (by kernel_rfl) IxB rfl (by decide) λx cs g v ⟨k,a,b,d,e⟩=>by subst a d e;exact⟨rfl,rfl,λc f=>xS x k c f b⟩
theorem Ot:al 68 (gM 4 IxB Rg):=uL (ay On 5 _) (by kernel_rfl) IxB rfl (by decide) λx cs g v ⟨k,a,b,d,e⟩=>by subst a d e;exact⟨rfl,rfl,λc f=>xS x k c f b⟩
theorem Re.UX{H:AH}{n b j m k x:Nat}{l s:List AV}{z:Bool}{u:AV}(d:u= .rw b 0 j k x)(e:j=m)(f:H.get b=some (.cells l z))(g:s.all flat.flat1=true)(a:s.length=m*k)(c:l.map mk=s.map mk)(h:x≠4:=by decide):Re H n u (H.set none aa b) (.fr m k s):=by subst d e;exact Re.row f g a c h
def KY(x:Ix)(cs:List AV)(v:AV):Prop:=∃k,cs=[.ss k]/\v= .sb (aD x.A k).isSome
theorem sO:al 84 (dM 4 IxB KY):=(gu az 3 (by kernel_rfl) IxB rfl (by decide) λx cs d v ⟨e,k,f,h⟩=>by
 subst e f h;refine⟨rfl,rfl,λc b=>?_⟩;have a:=b.A;obtain⟨A,w⟩:=d;dsimp only at a;subst a;cases a:aD c.1.A k with
 |none=>
  have q:gm IxB ⟨c.1.A,w⟩ (.sb false) (.bool false) (mkH (bE (ixO c) 0)) 4:=⟨_,c,.told rfl,b,sN rfl rfl rfl rfl⟩
  conv=>whnf
  refine Ask.mk _ (bb (m:=c.1) (g:=gL) bP mkA rfl rfl rfl Gm a) ?_
  conv=>whnf
  exact q
 |some l=>
  have q:gm IxB ⟨c.1.A,w⟩ (.sb true) (.bool true) (mkH (bE (ixO c) 0)) 4:=⟨_,c,.told rfl,b,sN rfl rfl rfl rfl⟩
  conv=>whnf
  refine Ask.mk _ (bb (m:=c.1) (g:=gL) bP mkA rfl rfl rfl Gm a) ?_
  conv=>whnf
  exact q).ol
def Xg(x:Ix)(cs:List AV)(v:AV):Prop:=∃k,cs=[.ss k]/\v=gL ((aD x.A k).getD [])
theorem Rh:al 87 (dM 4 IxB Xg):=(gu az 3 (by kernel_rfl) IxB rfl (by decide) λx cs f v ⟨h,k,i,j⟩=>by
 subst h i j;refine⟨rfl,rfl,λc e=>?_⟩;have b:=e.A;have a:=e.lab;obtain⟨A,w⟩:=f;dsimp only at b a;subst b;cases b:aD c.1.A k with
 |none=>
  conv=>whnf
  refine Ask.mk _ (bb (m:=c.1) (g:=gL) bP mkA rfl rfl rfl Gm b) ?_
  conv=>whnf
  exact⟨_,c,.nsl,e,sN rfl rfl rfl rfl⟩
 |some l=>
  have n:l.length<=8:=nR (a _ (bJ b)).2;have d:(0+l.length)*32<=140737488355328:=by omega
  conv=>whnf
  refine Ask.mk _ (bb (m:=c.1) (g:=gL) bP mkA rfl rfl rfl Gm b) ?_
  conv=>whnf
  refine bF.grow 2 32 _ _ _ _ _ _ Xe .fr (jO l) (Ea l) .nsl d ?_
  conv=>whnf
  exact⟨_,c,Re.UX rfl (q1g _) rfl (pX l) (jO l) rfl,e,sN rfl rfl rfl rfl⟩).ol
def mq (x:Ix) (k:Tx) (l:List Lab):Ix×AV:=if(iu k&&dR l)=true then(⟨eg (dq x.A k) k (cj l),x.w+8⟩,.si .i64 0)else(x,.si .i64 1)
def UY(x:Ix)(cs:List AV)(a:Ix)(v:AV):Prop:=∃k l r,cs=[.ss k,gL l]/\l.length<=1000/\x.w<800000/\mq x k l=r/\a=r.1/\v=r.2/\gj v=true
def Ri:DT:=[(6,[(some 0,[0]),(some 0,[24]),(some 0,[25]),(some 0,[26]),(some 0,[1]),(some 0,[2]),(none,[29])]),
 (10,[(some 0,[0]),(some 0,[37]),(some 0,[38]),(some 0,[39]),(some 0,[8]),(some 0,[0]),(some 0,[42]),(some 0,[43]),(some 0,[44]),(some 0,[8]),(some 0,[45,46]),(some 0,[1]),(none,[47,48])]),
 (11,[(some 0,[0]),(some 0,[51]),(some 0,[52]),(some 0,[53]),(some 0,[8]),(some 0,[55]),(some 0,[0]),(some 0,[57]),(some 0,[58]),(some 0,[59]),(some 0,[8]),(some 0,[61]),(some 0,[60,62]),(some 0,[1]),(none,[63,64])])]
def KIs:FuncId->EP:=aX 107 Ri (ao 68 (gM 4 IxB Rg) KIx)
theorem UZ:aS KIs:=au (ab Gn Ot) (by kernel_rfl) (by kernel_rfl)
theorem YL{H:AH}{c:IxC}(a:H.get 0=some (.cells [.map 1,.map 2,.map 3] true))(b:H.get 1=some (c.1.O kT gL))(d:H.get 2=some (c.2.1.O kL gS))(e:H.get 3=some (c.2.2.O kT gS)):∀i o,(ixO c)[i]?=some o->H.get i=some o
 |0,o,h=>by injection h with h;subst h;exact a
 |1,o,h=>by injection h with h;subst h;exact b
 |2,o,h=>by injection h with h;subst h;exact d
 |3,o,h=>by injection h with h;subst h;exact e
 |i+4,o,h=>by simp[ixO]at h
def ixS (k:Tx) (l:List Lab) (i:Nat) (c:IxC):AE×AH:=(mkE [(0,.ptr 0 (0)),(1,.ss (k)),(31,.fr l.length 2 (cM l)),(32,.si .i64 ((l.length:Int))),(33,.si .i64 ((i:Int)))],mkH [(0,.cells [.map 1,.map 2,.map 3] true),(1,c.1.O kT gL),(2,c.2.1.O kL gS),(3,c.2.2.O kT gS)])
theorem ID{k:Tx}{l:List Lab}{i:Nat}{c:IxC}{p n:Nat}{σ:AE}{H:AH}(e:p<=4)(e0:ai (pa 0) σ= .ptr 0 (0))(f:mk (ai (pa 1) σ)= .ss (k))(a:ai (pa 31) σ= .fr l.length 2 (cM l))(b:mk (ai (pa 32) σ)= .si .i64 ((l.length:Int)))(d:mk (ai (pa 33) σ)= .si .i64 ((i:Int)))(g:H.get 0=some (.cells [.map 1,.map 2,.map 3] true))(h:H.get 1=some (c.1.O kT gL))(j:H.get 2=some (c.2.1.O kL gS))(m:H.get 3=some (c.2.2.O kT gS)):Cov p σ H n ((ixS k l i c).1,(ixS k l i c).2,4):=
 Cov.ofA e ⟨.ptr (by decide) e0,.str f,ae.frE a,.int b,.int d,trivial⟩ ⟨.inl ⟨_,g,ak.refl rfl⟩,.inl ⟨_,h,ak.refl (aC bK xR)⟩,.inl ⟨_,j,ak.refl (aC xQ kl)⟩,.inl ⟨_,m,ak.refl (aC bK kl)⟩,trivial⟩ rfl
theorem KZ(x:Ix)(k:Tx)(l:List Lab)(c:IxC)(F:Oj x c)(G:l.length<=1000)(M:x.w<800000){r:Ix×AV}(B:mq x k l=r):ax KIs 5 107 [.ptr 0 0,.ss k,gL l] (mkH (bE (ixO c) 0)) 4 (gm IxB r.1 r.2):=by
 have no:(iu k&&dR l)=false->gm IxB r.1 r.2 (.int .i64 1) (mkH (bE (ixO c) 0)) 4:=λe=>by
  subst B;unfold mq;rw[e];exact⟨_,c,.told rfl,F,sN rfl rfl rfl rfl⟩
 have H:iu k=false->gm IxB r.1 r.2 (.int .i64 1) (mkH (bE (ixO c) 0)) 4:=λe=>no (by rw[e];rfl)
 have I:dR l=false->gm IxB r.1 r.2 (.int .i64 1) (mkH (bE (ixO c) 0)) 4:=λe=>no (by rw[e,Bool.and_false])
 conv=>whnf
 refine⟨_,_,_,.cons .same .nil,⟨k,rfl,rfl⟩,?_⟩
 conv=>whnf
 refine ag.nsb (λC=>?_) (λC=>?_)
 focus
  have q:=H C
  conv=>whnf
  exact q
 conv=>whnf
 refine⟨_,_,_,.cons .same .nil,⟨l,rfl,G,rfl⟩,?_⟩
 conv=>whnf
 refine ag.nsb (λz2=>?_) (λz2=>?_)
 focus
  have q:=I z2
  conv=>whnf
  exact q
 have B:r=(⟨eg (dq x.A k) k (cj l),x.w+8⟩,.si .i64 0):=by rw[<-B];unfold mq;rw[C,z2];rfl
 have N:l.length<=8:=nR z2;have o:x.w<900000:=by omega
 subst B;clear no H I;obtain⟨fs,O,P⟩:=mkL
 conv=>whnf
 refine⟨x,[.ss k],_,_,_,c,rfl,by decide,.cons .same .nil,F,YL rfl rfl rfl rfl,⟨k,rfl,o,rfl,rfl⟩,λf a=>?_⟩;have p:f.1.A=dq x.A k:=a.A
 conv=>whnf
 refine⟨_,_,.cons .same .nil,⟨l,rfl,G,rfl⟩,?_⟩
 conv=>whnf
 refine Ask.mk _ (rm (m:=f.1) (g:=gL) (v:=cj l) (k:=k) bP mkA rfl rfl (congrArg (λn=>AV.fr n 2 (cM (cj l))) (rl l).length_eq.symm) rfl) ?_
 conv=>whnf
 refine aN.mk {t:Nat×MpC Lab (List Tx)×MpC Tx (List Tx)//t.1<=l.length/\(t.2.1.Ok/\Rows t.2.1 (x.w+t.1))/\t.2.2.Ok/\Rows t.2.2 (x.w+t.1)} 4 (λt=>ixS k l t.val.1 (f.1.put k (cj l),t.val.2)) (λt=>l.length-t.val.1) ⟨(0,f.2),Z9 _,⟨a.o2,a.r2⟩,a.o3,a.r3⟩ ?_ ?_
 focus
  exact ID (i:=0) (c:=(f.1.put k (cj l),f.2)) (Z3 4) rfl rfl rfl rfl rfl rfl rfl rfl rfl
 intro⟨(i,b,d),J,⟨K,s⟩,L,u⟩;have J:i<=l.length:=J;have s:Rows b (x.w+i):=s;have u:Rows d (x.w+i):=u;have Q:IntKind.i64.wrap ((i:Int)+1)=((i+1:Nat):Int):=by rw[aj (by omega) (by omega)];omega
 conv=>whnf
 refine ag.dec (λh=>?_) (λh=>?_)
 focus
  have D:i<l.length:=q0v.1 h;have E:l.length-(i+1)<l.length-i:=by omega
  have R:=s.get l[i];have S:=u.get l[i].1;have T:(oo ((aD b.A l[i]).getD []) k).length<=x.w+(i+1):=by have:=xK ((aD b.A l[i]).getD []) k;omega
  have U:(oo ((aD d.A l[i].1).getD []) k).length<=x.w+(i+1):=by have:=xK ((aD d.A l[i].1).getD []) k;omega
  have V:((aD b.A l[i]).getD []).length<1000000:=by omega
  have W:((aD d.A l[i].1).getD []).length<1000000:=by omega
  have X:=vm (k:=l[i]) K (s.le (w':=x.w+(i+1)) (by omega)) T;have Z:=vm (k:=l[i].1) L (u.le (w':=x.w+(i+1)) (by omega)) U;clear R S
  conv=>whnf
  refine Idx.mk i rfl D ?_
  conv=>whnf
  refine aq (pq D rfl) ?_
  conv=>whnf
  refine Ask.mk _ (bb (m:=b) (g:=gS) (k:=l[i]) (Iz P) O rfl rfl rfl zTx rfl) ?_
  conv=>whnf
  refine⟨_,_,.cons (.opt (g:=gS) rfl _) (.cons .same .nil),⟨_,_,rfl,V,rfl⟩,?_⟩
  conv=>whnf
  refine⟨2,b,l[i],_,rfl,by decide,by decide,rfl,rfl,rfl,?_⟩
  conv=>whnf
  refine Ask.mk _ (bb (m:=d) (g:=gS) (k:=l[i].1) bP mkN rfl rfl rfl zTx rfl) ?_
  conv=>whnf
  refine⟨_,_,.cons (.opt (g:=gS) rfl _) (.cons .same .nil),⟨_,_,rfl,W,rfl⟩,?_⟩
  conv=>whnf
  refine⟨3,d,l[i].1,_,rfl,by decide,by decide,rfl,rfl,rfl,?_⟩
  conv=>whnf
  exact⟨⟨(i+1,oq b l[i] (oo ((aD b.A l[i]).getD []) k),oq d l[i].1 (oo ((aD d.A l[i].1).getD []) k)),D,X,Z⟩,E,ID (i:=i+1) (c:=(f.1.put k (cj l),oq b l[i] (oo ((aD b.A l[i]).getD []) k),oq d l[i].1 (oo ((aD d.A l[i].1).getD []) k))) (Z3 4) rfl rfl rfl rfl (congrArg (AV.si .i64) Q) rfl rfl rfl rfl⟩
 have e:(f.1.put k (cj l)).A=eg (dq x.A k) k (cj l):=by rw[Ef,p]
 have z:x.w+i<=x.w+8:=by omega
 have q:Oj ⟨eg (dq x.A k) k (cj l),x.w+8⟩ (f.1.put k (cj l),b,d):=⟨e,a.o1.put k _,K,L,s.le z,u.le z,λy j=>by
  have j:y∈eg (dq x.A k) k (cj l):=j;rw[<-e]at j;rcases nU j with rfl|j
  ·exact⟨C,(Ec (rl l)).trans z2⟩
  ·rw[p]at j;exact a.lab y j⟩
 conv=>whnf
 exact⟨_,(f.1.put k (cj l),b,d),.told rfl,q,sN rfl rfl rfl rfl⟩
theorem IE:al 107 (cK 4 IxB UY):=gu UZ 5 (by kernel_rfl) IxB rfl (by decide) λx cs j v ⟨k,l,r,a,b,d,e,f,g,h⟩=>by subst a f g;exact⟨rfl,h,λc i=>KZ x k l c i b d e⟩
section
variable {K V:Type}
def fc(A:List (K×V))(I:List Nat):List (K×V):=I.filterMap λi=>A[i]?
def di(bs:List Nat)(I:List Nat):List Nat:=I.filterMap λi=>bs[i]?
structure RgI(m:MpC K V)(I:List Nat):Prop where
 nd:I.Nodup
 lt:∀i∈I,i<m.A.length
theorem RgI.nil{m:MpC K V}:RgI m []:=⟨.nil,λi h=>(by cases h)⟩
theorem RgI.len{m:MpC K V}{I:List Nat}(h:RgI m I):I.length<=m.A.length:=by
 have a:I.Nodup/\I⊆List.range m.A.length:=⟨h.nd,λi b=>q2u.2 (h.lt i b)⟩;have:=List.Nodup.length_le_of_subset a.1 a.2;rwa [List.length_range]at this
theorem sP{A:List (K×V)}{I:List Nat}{i:Nat}(h:i<A.length):fc A (I++ [i])=fc A I++ [A[i]]:=by
 unfold fc;rw[List.filterMap_append];simp[q0b h]
theorem kO{bs:List Nat}{I:List Nat}{i x:Nat}(h:bs[i]?=some x):di bs (I++ [i])=di bs I++ [x]:=by
 unfold di;rw[List.filterMap_append];simp[h]
theorem RgI.step{m:MpC K V}{I:List Nat}(h:RgI m I){i x:Nat}(g:i<m.A.length)(k:m.bs[i]?=some x)(hn:x∉di m.bs I):RgI m (I++ [i])/\i∉I:=by
 have d:i∉I:=λq=>hn (q2x.2 ⟨i,q,k⟩)
 refine⟨⟨?_,λj c=>?_⟩,d⟩
 ·rw[q3z];exact⟨h.nd,by simp,λa l b f=>by simp at f;subst f;exact λe=>d (e▸l)⟩
 ·rcases q1n.1 c with c|c
  ·exact h.lt j c
  ·simp at c;subst c;exact g
theorem K0(A:List (K×V)):fc A (List.range A.length)=A:=by
 unfold fc
 have:∀(n:Nat),n<=A.length->(List.range n).filterMap (λi=>A[i]?)=A.take n:=λn=>by
  induction n with
  |zero=>intro _;simp
  |succ n a=>
   intro b;rw[List.range_succ,List.filterMap_append,a (by omega),q0c (by omega)];simp[q0b (show n<A.length by omega)]
 rw[this _ (Z3 _),q0u]
theorem RgI.sQ{m:MpC K V}{I:List Nat}(h:RgI m I)(ho:m.bs.Nodup)(o:m.bs.length=m.A.length)(d:∀x∈m.bs,x∈di m.bs I):(fc m.A I).Perm m.A/\I.length=m.A.length:=by
 have a:I.Perm (List.range m.A.length):=(List.perm_ext_iff_of_nodup h.nd List.nodup_range).2 λi=>by
  refine⟨λhi=>q2u.2 (h.lt i hi),λhi=>?_⟩;have hi:=q2u.1 hi;have f:=d _ (q0k (l:=m.bs) (n:=i) (by omega));obtain⟨j,p,e⟩:=q2x.1 f;obtain⟨g,k⟩:=q0e.1 e;have:j=i:=(List.getElem_inj (h₀:=g) (h₁:=by omega) ho).1 k;rwa [<-this]
 refine⟨?_,by rw[a.length_eq,List.length_range]⟩;have:=a.filterMap (λi=>m.A[i]?);rw[show(List.range m.A.length).filterMap (λi=>m.A[i]?)=m.A from K0 m.A]at this;exact this
theorem zL{m:MpC K V}(c:(m.A.map Prod.fst).Nodup){I:List Nat}{i:Nat}(d:i<m.A.length)(hi:i∉I):∀e∈fc m.A I,e.1≠(m.A[i]).1:=λe f q=>by
 obtain⟨j,g,h⟩:=q2x.1 f;obtain⟨k,l⟩:=q0e.1 h;have:j=i:=(List.getElem_inj (xs:=m.A.map Prod.fst) (h₀:=by simpa using k) (h₁:=by simpa using d) c).1 (by simp[l,q]);exact hi (this▸g)
theorem BE{A:List (K×V)}{I:List Nat}{e:K×V}(h:e∈fc A I):e∈A:=by
 obtain⟨j,_,a⟩:=q2x.1 h;exact q0w a
theorem vn{m:MpC K V}{I:List Nat}(h:RgI m I):(fc m.A I).length=I.length:=by
 have:∀(I:List Nat),(∀i∈I,i<m.A.length)->(fc m.A I).length=I.length:=λI=>by
  induction I with
  |nil=>intro _;rfl
  |cons i I b=>
   intro a;unfold fc;rw[List.filterMap_cons];rw[q0b (a i q0i)];simp only[q0a];exact congrArg (·+1) (b λj c=>a j (q0f _ c))
 exact this I h.lt
end
theorem ak.xU{H:AH}{m:Nat}{r:Nat->Nat}{b k:Nat}{seen:List Nat}(c:b<m)(d:r b=b):ak H m r (.iter b k seen) (.iter b k seen):=
 ⟨⟨rfl,rfl⟩,λh i p j a _ ⟨e,q,f,g⟩=>⟨e,q,by rw[a.1 b c,d];exact f,g⟩⟩
theorem ak.bz{H:AH}{m k:Nat}{r:Nat->Nat}{o:AO}(h:ltO k o=true)(d:k<=m)(g:∀b,b<k->r b=b):ak H m r o o:=⟨⟨rfl,rfl⟩,λi j _ _ a _ ho=>OR.below (m:=k) (λb _ c e=>(a.1 b (q1j c d)).trans ((congrArg i.f (g b c)).trans e)) a.2 h ho⟩
theorem iv{V W:List Tx}(h:V.Perm W):aK V=aK W:=ri (ba V).1 (ba W).1 λs=>by rw[(ba V).2,(ba W).2];exact h.mem_iff
def Xh(x:Ix)(cs:List AV)(v:AV):Prop:=cs=[]/\x.A.length<=900000/\v=gS (aK (x.A.map Prod.fst))
def ixK (c:IxC) (I:List Nat) (V:List Tx):AE×AH:=(mkE [(3,.rw 5 0 V.length 1 0),(11,.ptr 4 (0))],mkH [(0,.cells [.map 1,.map 2,.map 3] true),(1,c.1.O kT gL),(2,c.2.1.O kL gS),(3,c.2.2.O kT gS),(4,AO.iter 1 c.1.cl (di c.1.bs I)),(5,.cells (strs (V)) true)])
theorem IF{c:IxC}{I:List Nat}{V:List Tx}{p n:Nat}{σ:AE}{H:AH}(a:Nat)(v:a≠0/\a≠1/\a≠2/\a≠3/\a≠4)(w:p<=4)(j:ae H 6 (λb=>if b=5 then a else b) (ai (pa 3) σ) (.rw 5 0 V.length 1 0))(e:ai (pa 11) σ= .ptr 4 (0))(m:H.get 0=some (.cells [.map 1,.map 2,.map 3] true))(o:H.get 1=some (c.1.O kT gL))(r:H.get 2=some (c.2.1.O kL gS))(s:H.get 3=some (c.2.2.O kT gS))(t:H.get 4=some (AO.iter 1 c.1.cl (di c.1.bs I)))(u:(∃l,H.get a=some (.cells l true)/\l.map mk=strs (V))∨((V)=[]/\n<=a)):Cov p σ H n ((ixK c I V).1,(ixK c I V).2,6):=
 Cov.ofB (λb=>if b=5 then a else b) (by omega) (λb d=>by repeat' rw[if_neg (by omega)]) ⟨j,.ptr (by decide) e,trivial⟩ ⟨.inl ⟨_,m,ak.bz (k:=4) rfl (by decide) (λb d=>if_neg (by omega))⟩,.inl ⟨_,o,ak.bz (k:=0) (aC bK xR) (by decide) (λb d=>absurd d (q0o b))⟩,.inl ⟨_,r,ak.bz (k:=0) (aC xQ kl) (by decide) (λb d=>absurd d (q0o b))⟩,.inl ⟨_,s,ak.bz (k:=0) (aC bK kl) (by decide) (λb d=>absurd d (q0o b))⟩,.inl ⟨_,t,ak.xU (by decide) rfl⟩,u.elim (λ⟨l,h,g⟩=> .inl ⟨_,h,ak.bu (bX _) (by rw[g,cZ]) (λq=>q)⟩) (λh=> .inr ⟨by rw[h.1];rfl,h.2⟩),trivial⟩ rfl (λx f y i=>by simp only[Z5,Z4,or_false]at f i;rcases f with rfl|rfl|rfl|rfl|rfl|rfl<;>rcases i with rfl|rfl|rfl|rfl|rfl|rfl<;>simp<;>omega)
theorem Ou:al 65 (dM 4 IxB Xh):=(gu Gn 4 (by kernel_rfl) IxB rfl (by decide) λx cs r v ⟨t,u,w,y⟩=>by
 subst t u y;refine⟨rfl,rfl,λc d=>?_⟩;have n:=d.A;have J:c.1.A.length<=900000:=by rw[n];exact w
 conv=>whnf
 refine aN.mk {I:List Nat//RgI c.1 I} 6 (λI=>ixK c I.val ((fc c.1.A I.val).map Prod.fst)) (λI=>c.1.A.length-I.val.length) ⟨[],.nil⟩ ?_ ?_
 focus
  exact IF (I:=[]) (V:=(fc c.1.A []).map Prod.fst) (c:=c) 5 (by decide) (Z3 4) (.iD rfl) rfl rfl rfl rfl rfl rfl (.inr ⟨rfl,Z3 _⟩)
 intro⟨I,j⟩;have o:((fc c.1.A I).map Prod.fst).length+1<=900001:=by rw[q0g,vn j];have:=j.len;omega
 have b:(((fc c.1.A I).map Prod.fst).length+1)*16<=140737488355328:=by omega
 have B:bl (strs ((fc c.1.A I).map Prod.fst)) 0 (((fc c.1.A I).map Prod.fst).length*1)=some (strs ((fc c.1.A I).map Prod.fst)):=bj (by rw[aV,q0r])
 conv=>whnf
 refine Nxt.mp 4 1 c.1.cl _ _ _ rfl rfl rfl rfl d.o1.lt (λho=>?_) (λi e x p k C=>?_)
 focus
  obtain⟨D,L⟩:=j.sQ d.o1.nd d.o1.len ho;have E:aK ((fc c.1.A I).map Prod.fst)=aK (r.A.map Prod.fst):=by rw[<-n];exact iv (D.map _)
  have F:((fc c.1.A I).map Prod.fst).length<=1000000:=by omega
  conv=>whnf
  refine⟨_,_,_,.cons (.row (l:=strs ((fc c.1.A I).map Prod.fst)) (z:=true) rfl (bX _) (by rw[aV,q0r]) rfl) .nil,⟨_,rfl,F,rfl⟩,?_⟩
  conv=>whnf
  exact⟨_,c,by rw[E];exact .same,d,sN rfl rfl rfl rfl⟩
 obtain⟨f,rfl⟩:=p5 p;obtain⟨g,M⟩:=j.step f k C;have G:di c.1.bs I++ [x]=di c.1.bs (I++ [i]):=(kO k).symm;have q:(fc c.1.A I).map Prod.fst++ [c.1.A[i].1]=(fc c.1.A (I++ [i])).map Prod.fst:=by rw[sP f,q0x];rfl
 have H:c.1.A.length-(I++ [i]).length<c.1.A.length-I.length:=by have:=g.len;simp only[Z6,q2b]at this⊢;omega
 have a:(strs ((fc c.1.A I).map Prod.fst)++ [AV.ss c.1.A[i].1]).map mk=strs ((fc c.1.A (I++ [i])).map Prod.fst):=by rw[<-q];exact dJ _ _
 have h:((fc c.1.A I).map Prod.fst).length+1=((fc c.1.A (I++ [i])).map Prod.fst).length:=by rw[<-q,Z6];rfl
 have m:=d.o1.nd
 conv=>whnf
 refine Ent.mp 4 1 c.1.cl i x (di c.1.bs I) (iV kT gL c.1.A) c.1.bs _ rfl rfl rfl m k p ?_
 conv=>whnf
 refine bF.grow 1 16 _ _ _ _ _ _ tyT (.old rfl) rfl rfl (.rw rfl B) b ?_
 conv=>whnf
 exact⟨⟨I++ [i],g⟩,H,IF (I:=I++ [i]) (V:=(fc c.1.A (I++ [i])).map Prod.fst) (c:=c) 7 (by decide) (Z3 4) (.rw (by decide) rfl h) rfl rfl rfl rfl rfl (congrArg (λs=>some (AO.iter 1 c.1.cl s)) G) (.inl ⟨_,rfl,a⟩)⟩).ol
theorem YM{u v:AV}{H:AH}{n p m:Nat}{O:List AO}(f:xC H m O 0)(j:O.length=m)(g:p<=m)(hv:ae H m (λb=>b) u v):Cov p (mkE [(0,u)]) H n (mkE [(0,v)],mkH (bE O 0),m):=
 Cov.ofR (λb=>b) g (λ_ _=>rfl) (λx a=>by
  simp only[Z5,Z4,or_false]at a;subst a;exact hv) (λx a=>by
  obtain⟨b,o⟩:=x;obtain⟨i,h,c⟩:=rW a;have:=(q0e.1 c).1;have d:=f.at c;rw[<-h]at d;exact⟨(by show b<m;omega),.inl d⟩) (λ_ _ _ _ e=>e)
def YN:IxC:=(MpC.no,MpC.no,MpC.no)
theorem IG:al 51 (sJ 4 IxB λcs y=>cs=[]/\y=⟨[],0⟩):=Od (ay az 3 _) (by kernel_rfl) IxB rfl (by decide) λcs y ⟨f,g⟩=>by
 subst f g;refine⟨rfl,?_⟩
 conv=>whnf
 refine⟨YN,⟨rfl,MpC.xN,MpC.xN,MpC.xN,λ_ h=>(by cases h),λ_ h=>(by cases h),λ_ h=>(by cases h)⟩,Cov.ofR (λb=>if b=0 then 3 else b-1) (Z9 _) (λb j=>absurd j (q0o b)) (λx c=>?_) (λx c=>?_) (λx c y d e=>?_)⟩
 ·simp only[Z5,Z4,or_false]at c;subst c;exact .ptr (by decide) rfl
 ·simp only[bE,ixO,IxB,Z5,Z4,or_false]at c;rcases c with rfl|rfl|rfl|rfl
  ·refine⟨by decide,.inl ⟨_,rfl,.cells (Z3 _) id λi k a=>?_⟩⟩
   match i,a with
   |0,a=>injection a with a;subst a;exact⟨_,rfl,.map (by decide) rfl⟩
   |1,a=>injection a with a;subst a;exact⟨_,rfl,.map (by decide) rfl⟩
   |2,a=>injection a with a;subst a;exact⟨_,rfl,.map (by decide) rfl⟩
   |i+3,a=>simp at a
  ·exact⟨by decide,.inl ⟨_,rfl,.Gl⟩⟩
  ·exact⟨by decide,.inl ⟨_,rfl,.Gl⟩⟩
  ·exact⟨by decide,.inl ⟨_,rfl,.Gl⟩⟩
 ·simp only[bE,ixO,IxB,Z5,Z4,or_false]at c d;rcases c with rfl|rfl|rfl|rfl<;>rcases d with rfl|rfl|rfl|rfl<;>simp at e⊢
def reL (A:List (Tx×List Lab)):List (Tx×List Lab):=A.map λe=>(e.1,cj e.2)
def U0(x:Ix)(cs:List AV)(a:Ix)(P:AV->List AO->Prop):Prop:=cs=[]/\x.A.length<=1000/\a=x/\P=λv E=>∃p A,A.Perm (reL x.A)/\v=aA p/\E=[.sep (IxB.Q ⟨A,8*x.A.length⟩ p)]
def KIc:FuncId->EP:=ao 51 (sJ 4 IxB λcs y=>cs=[]/\y=⟨[],0⟩) (ao 107 (cK 4 IxB UY) evP)
theorem U1:aS KIc:=ab (ab az IE) IG
def ixC (c:IxC) (I:List Nat) (p2:Nat×Nat):AE×AH:=(mkE [(3,aA p2),(13,.ptr 9 (0))],mkH [(0,.cells [.map 1,.map 2,.map 3] true),(1,c.1.O kT gL),(2,c.2.1.O kL gS),(3,c.2.2.O kT gS),(4,AO.sep (IxB.Q ⟨reL (fc c.1.A I),8*I.length⟩ p2)),(9,AO.iter 1 c.1.cl (di c.1.bs I))])
theorem IH{c:IxC}{I:List Nat}{p2:Nat×Nat}{p n:Nat}{σ:AE}{H:AH}(e:p<=4)(f:ai (pa 3) σ=aA p2)(a:ai (pa 13) σ= .ptr 9 (0))(g:H.get 0=some (.cells [.map 1,.map 2,.map 3] true))(h:H.get 1=some (c.1.O kT gL))(i:H.get 2=some (c.2.1.O kL gS))(j:H.get 3=some (c.2.2.O kT gS))(l:H.get 4=some (AO.sep (IxB.Q ⟨reL (fc c.1.A I),8*I.length⟩ p2)))(m:H.get 9=some (AO.iter 1 c.1.cl (di c.1.bs I))):Cov p σ H n ((ixC c I p2).1,(ixC c I p2).2,10):=
 Cov.ofA (q0d e (by decide)) ⟨ae.aA f,.ptr (by decide) a,trivial⟩ ⟨.inl ⟨_,g,ak.bz (k:=4) rfl (by decide) (λb d=>rfl)⟩,.inl ⟨_,h,ak.bz (k:=0) (aC bK xR) (by decide) (λb d=>rfl)⟩,.inl ⟨_,i,ak.bz (k:=0) (aC xQ kl) (by decide) (λb d=>rfl)⟩,.inl ⟨_,j,ak.bz (k:=0) (aC bK kl) (by decide) (λb d=>rfl)⟩,.inl ⟨_,l,ak.sep _⟩,.inl ⟨_,m,ak.xU (by decide) rfl⟩,trivial⟩ rfl
theorem xV{K V:Type} [DecidableEq K]{A:List (K×V)}{k:K}{v:V}(h:∀e∈A,e.1≠k):eg (dq A k) k v=A++ [(k,v)]/\aD A k=none:=by
 have e:aD A k=none:=by
  cases e:aD A k with
  |none=>rfl
  |some u=>exact absurd rfl (h _ (bJ e))
 refine⟨?_,e⟩;rw[p6 e];unfold aD at e;rw[q4j]at e;unfold eg;rw[e]
theorem Ov:al 66 (xD 4 IxB U0):=xE (ay U1 4 _) (by kernel_rfl) IxB rfl (by decide) λx cs v P ⟨w,y,B,C⟩=>by
 subst w B C;refine⟨rfl,λc d=>?_⟩;have j:=d.A;have N:c.1.A.length<=1000:=by rw[j];exact y
 conv=>whnf
 refine⟨[],⟨[],0⟩,_,by decide,.nil,rfl,⟨rfl,rfl⟩,λf=>?_⟩
 conv=>whnf
 refine aN.mk {I:List Nat//RgI c.1 I} 10 (λI=>ixC c I.val f) (λI=>c.1.A.length-I.val.length) ⟨[],.nil⟩ ?_ ?_
 focus
  exact IH (I:=[]) (c:=c) (Z3 4) rfl rfl rfl rfl rfl rfl rfl rfl
 intro⟨I,l⟩;have D:=l.len
 conv=>whnf
 refine Nxt.mp 9 1 c.1.cl _ _ _ rfl rfl rfl rfl d.o1.lt (λho=>?_) (λi e x k m E=>?_)
 focus
  obtain⟨F,p⟩:=l.sQ d.o1.nd d.o1.len ho;have G:(reL (fc c.1.A I)).Perm (reL v.A):=by rw[<-j];exact F.map _
  have H:I.length=v.A.length:=by rw[p,j]
  conv=>whnf
  refine⟨aA f,[.sep (IxB.Q ⟨reL (fc c.1.A I),8*I.length⟩ f)],c,⟨f,_,G,rfl,congrArg (λn=> [AO.sep (IxB.Q ⟨reL (fc c.1.A I),8*n⟩ f)]) H⟩,d,rfl,λo ho=>?_,Z0 rfl,YM ?_ rfl (q1c _ _) (ae.aA rfl)⟩
  ·simp only[Z5,Z4,or_false]at ho;subst ho;exact⟨rfl,rfl⟩
  ·exact⟨⟨_,rfl,.refl rfl⟩,⟨_,rfl,.refl (aC bK xR)⟩,⟨_,rfl,.refl (aC xQ kl)⟩,⟨_,rfl,.refl (aC bK kl)⟩,⟨_,rfl,ak.sep _⟩,trivial⟩
 obtain⟨b,rfl⟩:=p5 k;obtain⟨g,J⟩:=l.step b m E;have K:di c.1.bs I++ [x]=di c.1.bs (I++ [i]):=(kO m).symm;have L:c.1.A.length-(I++ [i]).length<c.1.A.length-I.length:=by have:=g.len;simp only[Z6,q2b]at this⊢;omega
 have a:=d.lab _ (by rw[<-j];exact q0k b)
 have q:∀e∈reL (fc c.1.A I),e.1≠c.1.A[i].1:=λe k=>by
  obtain⟨z,M,rfl⟩:=q0p.1 k;exact zL d.o1.key b J z M
 have h:mq ⟨reL (fc c.1.A I),8*I.length⟩ c.1.A[i].1 c.1.A[i].2=(⟨reL (fc c.1.A (I++ [i])),8*(I++ [i]).length⟩,.si .i64 0):=by
  unfold mq;rw[a.1,a.2];show(_,_)=_;rw[(xV q).1,sP b];unfold reL;rw[q0x,Z6];simp only[q2b,Nat.mul_add];rfl
 have r:c.1.A[i].2.length<=1000:=q0d (nR a.2) (by decide);have t:8*I.length<800000:=by omega
 have u:=d.o1.nd
 conv=>whnf
 refine Ent.mp 9 1 c.1.cl i x (di c.1.bs I) (iV kT gL c.1.A) c.1.bs _ rfl rfl rfl u m k ?_
 conv=>whnf
 refine⟨4,f,⟨reL (fc c.1.A I),8*I.length⟩,[.ss c.1.A[i].1,gL c.1.A[i].2],_,_,_,rfl,by decide,by decide,.cons .same (.cons .same .nil),rfl,rfl,⟨c.1.A[i].1,c.1.A[i].2,_,rfl,r,t,h,rfl,rfl,rfl⟩,?_⟩
 conv=>whnf
 exact⟨⟨I++ [i],g⟩,L,IH (I:=I++ [i]) (c:=c) (Z3 4) rfl rfl rfl rfl rfl rfl rfl (congrArg (λs=>some (AO.iter 1 c.1.cl s)) K)⟩
structure Rl where
 src:Tx
 dst:Tx
 kind:Int
 size:Int
 align:Int
deriving DecidableEq
def ruC(r:Rl):List AV:=[.ss r.src,.ss r.dst,.si .i64 r.kind,.si .i64 r.size,.si .i64 r.align]
def gR(r:Rl):AV:= .agg (ruC r)
def ruL(L:List Rl):List AV:=L.flatMap ruC
theorem pv(r:Rl)(L:List Rl):ruL (r::L)=ruC r++ruL L:=rfl
theorem jq(L:List Rl):(ruL L).length=L.length*5:=by
 induction L with
 |nil=>rfl
 |cons r L a=>rw[pv];simp only[Z6,q0a,a];show 5+_=_;omega
theorem iW(L:List Rl):(ruL L).all flat.flat1=true:=by
 induction L with
 |nil=>rfl
 |cons r L a=>rw[pv,List.all_append,a];rfl
theorem dC(L:List Rl):(ruL L).map mk=ruL L:=by
 induction L with
 |nil=>rfl
 |cons r L a=>rw[pv,q0x,a];rfl
theorem xW(L:List Rl)(r:Rl):(ruL L++ruC r).map mk=ruL (L++ [r]):=by
 have:ruL (L++ [r])=ruL L++ruC r:=by
  show(L++ [r]).flatMap ruC=_;rw[List.flatMap_append];simp[ruL]
 rw[this,q0x,dC];rfl
theorem xX:∀(L:List Rl) (i:Nat),(ruL L).drop (i*5)=ruL (L.drop i)
 |L,0=>by simp
 | [],i+1=>by simp[ruL]
 |r::L,i+1=>by
  rw[show(i+1)*5=i*5+1+1+1+1+1 by omega];exact xX L i
theorem vo{L:List Rl}{i o:Nat}(h:i<L.length)(ho:o=i*5):bl (ruL L) o 5=some (ruC L[i]):=by
 subst ho;unfold bl;rw[q0z (by rw[jq];omega),xX,q0t h,pv];rfl
theorem U2:RTy 38 38 5 56:=⟨_,_,_,rfl,rfl,(λq h=>by cases h),rfl,rfl,rfl,rfl,by decide,by decide⟩
def zM(r:Rl):Bool:=decide (1<=r.size/\r.size<=1099511627776/\0<=r.align/\r.align<r.size)
def cU(r:Rl):Bool:=zM r&&(iu r.src&&(iu r.dst&&(!decide (r.src=r.dst)&&jT r.kind)))
def U3(cs:List AV)(v:AV):Prop:=∃r:Rl,cs=[gR r]/\v= .sb (cU r)
theorem Rj{P:Program}{t:TypeId}{H:AH}{xs a:List AV}{pl:List (Nat×Nat)}{q:Bool}(b:iJ P t=some pl)(c:jD xs a pl=some q):yy P .eql t (.agg xs) (.agg a) H=some (.bool q):=by
 show qp .eql ((iJ P t).bind (jD xs a))=_;rw[b];show qp .eql (jD xs a pl)=_;rw[c];rfl
theorem Xi:iJ Tryz.prog 32=some [(1,0),(1,1),(0,2),(0,3),(0,4)]:=by kernel_rfl
def KRr:FuncId->EP:=ao 105 (bV Eb) (ao 149 (rS jT) evP)
theorem U4:aS KRr:=ab (ab az G7) Iu
theorem U5(r:Rl):jD [.str r.src,.str r.dst,.int .i64 r.kind,.int .i64 r.size,.int .i64 r.align] [.str r.src,.str r.dst,.int .i64 r.kind,.int .i64 (max 1 (min r.size 1099511627776)),.int .i64 (max 0 (min r.align (IntKind.i64.wrap (r.size-1))))] [(1,0),(1,1),(0,2),(0,3),(0,4)]=some (zM r):=by
 have e:jD [.str r.src,.str r.dst,.int .i64 r.kind,.int .i64 r.size,.int .i64 r.align] [.str r.src,.str r.dst,.int .i64 r.kind,.int .i64 (max 1 (min r.size 1099511627776)),.int .i64 (max 0 (min r.align (IntKind.i64.wrap (r.size-1))))] [(1,0),(1,1),(0,2),(0,3),(0,4)]=some (db r.src r.src&&(db r.dst r.dst&&(decide (r.kind=r.kind)&&(decide (r.size=max 1 (min r.size 1099511627776))&&(decide (r.align=max 0 (min r.align (IntKind.i64.wrap (r.size-1))))&&true))))):=by
  simp[jD,nth]
 rw[e,a8.2 rfl,a8.2 rfl,decide_eq_true (rfl:r.kind=r.kind)];congr 1;unfold zM;rw[q2r];simp only[Bool.true_and,Bool.and_true,Z8,decide_eq_true_eq];constructor
 ·rintro⟨b,a⟩;rw[aj (by omega) (by omega)]at a;omega
 ·rintro⟨b,a,c,d⟩;rw[aj (by omega) (by omega)];omega
attribute [local irreducible] iJ
theorem Xk:al 89 (bV U3):=kh U4 4 (by kernel_rfl) λcs v ⟨r,k,l⟩=>by
 subst k l;have q:=U5 r;have m:zM r=false->cU r=false:=λz=>by unfold cU;rw[z];rfl
 have n:iu r.src=false->cU r=false:=λz=>by unfold cU;rw[z];simp
 have o:iu r.dst=false->cU r=false:=λz=>by unfold cU;rw[z];simp
 have p:db r.src r.dst=true->cU r=false:=λz=>by unfold cU;rw[decide_eq_true (a8.1 z)];simp
 have s:zM r=true->iu r.src=true->iu r.dst=true->db r.src r.dst=false->cU r=jT r.kind:=λa b c d=>by
  have:r.src≠r.dst:=λe=>by rw[a8.2 e]at d;cases d
  unfold cU;rw[a,b,c,decide_eq_false this];rfl
 refine⟨rfl,rfl,?_⟩
 conv=>whnf
 generalize j:yy _ _ _ _ _ _=E;have f:E=some (.bool (zM r)):=j.symm.trans (Rj Xi q);clear j;subst f
 conv=>whnf
 refine ag.sb (λg=>?_) (λg=>?_)
 ·conv=>whnf
  refine⟨_,_,_,.cons .same .nil,⟨_,rfl,rfl⟩,?_⟩
  conv=>whnf
  refine ag.sb (λh=>?_) (λh=>?_)
  ·conv=>whnf
   refine⟨_,_,_,.cons .same .nil,⟨_,rfl,rfl⟩,?_⟩
   conv=>whnf
   refine ag.sb (λz2=>?_) (λz2=>?_)
   ·conv=>whnf
    refine ag.nsb (λi=>?_) (λi=>?_)
    ·have e:=s g h z2 i
     conv=>whnf
     exact cY.told (congrArg AV.sb e.symm)
    ·have e:=p i
     conv=>whnf
     exact cY.told (congrArg AV.sb e.symm)
   ·have e:=o z2
    conv=>whnf
    exact cY.told (congrArg AV.sb e.symm)
  ·have e:=n h
   conv=>whnf
   exact cY.told (congrArg AV.sb e.symm)
 ·have e:=m g
  conv=>whnf
  exact cY.told (congrArg AV.sb e.symm)
abbrev Gr:=List (Tx×Rl)
abbrev GrC:=MpC Tx Rl
def zR:Rl:=⟨[],[],0,0,0⟩
theorem iX{j:Nat}(r:Rl):ltV j (gR r)=true:=rfl
structure yD(x:Gr)(c:GrC):Prop where
 A:c.A=x
 o:c.Ok
 dst:∀e∈x,e.2.dst=e.1
 lab:∀e∈x,cU e.2=true
def grO(c:GrC):List AO:=[.cells [.map 1] true,c.O kT gR]
def GrB:Obj Gr GrC where
 ok:=yD
 O:=grO
 k:=2
 len _:=rfl
 own c o h:=by
  simp only[grO,Z5,Z4,or_false]at h;rcases h with rfl|rfl
  ·exact⟨rfl,rfl⟩
  ·exact⟨rfl,aC bK iX⟩
 pos c:=⟨_,_,_,rfl⟩
theorem mW{H:AH}{c:GrC}(a:H.get 0=some (.cells [.map 1] true))(b:H.get 1=some (c.O kT gR)):xC H 2 (grO c) 0:=⟨⟨_,a,.refl rfl⟩,⟨_,b,.refl (aC bK iX)⟩,trivial⟩
theorem Xl{H:AH}{c:GrC}(a:H.get 0=some (.cells [.map 1] true))(b:H.get 1=some (c.O kT gR)):∀i o,(grO c)[i]?=some o->H.get i=some o
 |0,o,h=>by injection h with h;subst h;exact a
 |1,o,h=>by injection h with h;subst h;exact b
 |i+2,o,h=>by simp[grO]at h
theorem mkR:dO Tryz.prog 167=some (9,.string,32):=by kernel_rfl
theorem lB:c7 Tryz.prog 32=some (.agg #[.string ⟨#[]⟩,.string ⟨#[]⟩,.int .i64 0,.int .i64 0,.int .i64 0]):=by kernel_rfl
def rul(R:Gr)(d:Tx):Rl:=(aD R d).getD zR
def pkS (N:List Tx) (R:Gr) (s:Tx):List Rl:=(N.filter λd=>decide ((rul R d).src=s)).map (rul R)
def pkF (R:Gr) (so:Rl->Bool):List Rl:=(aK ((R.filter λe=>so e.2).map λe=>e.2.src)).flatMap (pkS (aK ((R.filter λe=>so e.2).map Prod.fst)) R)
theorem p7{R:Gr}{so:Rl->Bool}(h:(R.map Prod.fst).Nodup)(hd:∀e∈R,e.2.dst=e.1)(r:Rl):r∈pkF R so<->(r.dst,r)∈R/\so r=true:=by
 unfold pkF pkS;simp only[List.mem_flatMap,q0p,q1d,(ba _).2,decide_eq_true_eq];constructor
 ·rintro⟨s,⟨e,⟨b,c⟩,l⟩,d,⟨⟨a,⟨f,j⟩,k⟩,m⟩,i⟩;subst k;have g:aD R a.1=some a.2:=cV h f;have:rul R a.1=a.2:=by unfold rul;rw[g];rfl
  rw[this]at i;subst i;exact⟨by rw[hd a f];exact f,j⟩
 ·rintro⟨b,c⟩;have g:aD R r.dst=some r:=cV h b;have:rul R r.dst=r:=by unfold rul;rw[g];rfl
  exact⟨r.src,⟨(r.dst,r),⟨b,c⟩,rfl⟩,r.dst,⟨⟨(r.dst,r),⟨b,c⟩,rfl⟩,by rw[this]⟩,this⟩
theorem kG{a:Type}{p:a->Bool}(L:List a):(L.filter p).length<=L.length:=q1h _ _
theorem sR{a c:Type}{f:a->List c}{b:Nat}:∀{L:List a},(∀x∈L,(f x).length<=b)->(L.flatMap f).length<=L.length*b
 | [],_=>by simp
 |x::L,h=>by
  rw[q4q,Z6,q0a,q2q,Nat.one_mul];have e:=h x q0i;have g:=sR (L:=L) λy d=>h y (q0f _ d)
  omega
theorem xY{N:List Tx}{R:Gr}{s:Tx}{j:Nat}(h:j<N.length):pkS (N.take (j+1)) R s=pkS (N.take j) R s++if(rul R N[j]).src=s then [rul R N[j]]else []:=by
 unfold pkS;rw[q0c h,q2n,q0x];congr 1;by_cases q:(rul R N[j]).src=s
 ·simp[q]
 ·simp[q]
theorem ae.bz{H:AH}{m k:Nat}{r:Nat->Nat}{a:AV}(h:ltV k a=true)(g:k<=m)(i:∀b,b<k->r b=b):ae H m r a a:=λj n v c _ l=>VR.below (m:=k) (λb _ d e=>(c.1 b (q1j d g)).trans ((congrArg j.f (i b d)).trans e)) c.2 a v h l
theorem ae.c6{H:AH}{m k:Nat}{r:Nat->Nat}{a c:AV}(e:a=c)(h:ltV k c=true)(d:k<=m)(f:∀b,b<k->r b=b):ae H m r a c:=by subst e;exact ae.bz h d f
def soV(A:Gr)(so:Rl->Bool)(I:List Nat):Gr:=(fc A I).filter λe=>so e.2
theorem xZ{A:Gr}{so:Rl->Bool}{I:List Nat}{i:Nat}(h:i<A.length):soV A so (I++ [i])=soV A so I++if so A[i].2=true then [A[i]]else []:=by
 unfold soV;rw[sP h,q2n];congr 1;by_cases q:so A[i].2=true
 ·simp[q]
 ·simp[q]
def KPk:FuncId->EP:=aX 111 [(8,[(some 1000000,[2,6,3,6,2,7,3,7]),(none,[0,1,2,3,4,5,6,7,8,9,10]),(none,[0,1,2,4,5,6,3,7,8,9,10]),(none,[0,1,2,4,5,6,7,3,8,9,10]),(none,[0,1,4,5,6,2,3,7,8,9,10]),(none,[0,1,4,5,6,2,7,3,8,9,10]),(none,[0,1,4,5,6,7,2,3,8,9,10])])] (ao 124 (bV UR) evP)
theorem x0:aS KPk:=au (ab az SW) (by kernel_rfl) (by kernel_rfl)
def Ow (c:GrC) (I:List Nat) (V:List Tx) (W:List Tx):AE×AH:=(mkE [(0,.ptr 0 (0)),(1,AV.fn 112 [] []),(5,.rw 8 0 V.length 1 0),(6,.rw 9 0 W.length 1 0),(20,.ptr 2 (0))],mkH [(0,.cells [.map 1] true),(1,c.O kT gR),(2,AO.iter 1 c.cl (di c.bs I)),(8,.cells (strs (V)) true),(9,.cells (strs (W)) true)])
theorem jr{c:GrC}{I:List Nat}{V:List Tx}{W:List Tx}{p n:Nat}{σ:AE}{H:AH}(a:Nat)(d:Nat)(z:a≠0/\a≠1/\a≠2/\a≠d/\d≠0/\d≠1/\d≠2)(A:p<=2)(e0:ai (pa 0) σ= .ptr 0 (0))(m:ae H 10 (λb=>if b=8 then a else if b=9 then d else b) (ai (pa 1) σ) (AV.fn 112 [] []))(o:ae H 10 (λb=>if b=8 then a else if b=9 then d else b) (ai (pa 5) σ) (.rw 8 0 V.length 1 0))(r:ae H 10 (λb=>if b=8 then a else if b=9 then d else b) (ai (pa 6) σ) (.rw 9 0 W.length 1 0))(e:ai (pa 20) σ= .ptr 2 (0))(s:H.get 0=some (.cells [.map 1] true))(t:H.get 1=some (c.O kT gR))(u:H.get 2=some (AO.iter 1 c.cl (di c.bs I)))(v:(∃l,H.get a=some (.cells l true)/\l.map mk=strs (V))∨((V)=[]/\n<=a))(w:(∃l,H.get d=some (.cells l true)/\l.map mk=strs (W))∨((W)=[]/\n<=d)):Cov p σ H n ((Ow c I V W).1,(Ow c I V W).2,10):=
 Cov.ofB (λb=>if b=8 then a else if b=9 then d else b) (by omega) (λb f=>by repeat' rw[if_neg (by omega)]) ⟨.ptr (by decide) e0,m,o,r,.ptr (by decide) e,trivial⟩ ⟨.inl ⟨_,s,ak.bz (k:=2) rfl (by decide) (λb f=>by rw[if_neg (by omega),if_neg (by omega)])⟩,.inl ⟨_,t,ak.bz (k:=0) (aC bK iX) (by decide) (λb f=>absurd f (q0o b))⟩,.inl ⟨_,u,ak.xU (by decide) rfl⟩,v.elim (λ⟨l,h,g⟩=> .inl ⟨_,h,ak.bu (bX _) (by rw[g,cZ]) (λq=>q)⟩) (λh=> .inr ⟨by rw[h.1];rfl,h.2⟩),w.elim (λ⟨l,h,g⟩=> .inl ⟨_,h,ak.bu (bX _) (by rw[g,cZ]) (λq=>q)⟩) (λh=> .inr ⟨by rw[h.1];rfl,h.2⟩),trivial⟩ rfl (λx i y j=>by simp only[Z5,Z4,or_false]at i j;rcases i with rfl|rfl|rfl|rfl|rfl<;>rcases j with rfl|rfl|rfl|rfl|rfl<;>simp<;>omega)
def Ox (c:GrC) (N:List Tx) (S:List Tx) (L:List Rl) (i:Nat):AE×AH:=(mkE [(0,.ptr 0 (0)),(5,.fr N.length 1 (strs N)),(9,AV.rw 8 0 L.length 5 0),(41,.fr S.length 1 (strs S)),(42,.si .i64 ((S.length:Int))),(43,.si .i64 ((i:Int)))],mkH [(0,.cells [.map 1] true),(1,c.O kT gR),(8,.cells (ruL (L)) true)])
theorem zQ{c:GrC}{N:List Tx}{S:List Tx}{L:List Rl}{i:Nat}{p n:Nat}{σ:AE}{H:AH}(a:Nat)(w:a≠0/\a≠1)(z:p<=2)(e0:ai (pa 0) σ= .ptr 0 (0))(r:ai (pa 5) σ= .fr N.length 1 (strs N))(s:ae H 9 (λb=>if b=8 then a else b) (ai (pa 9) σ) (AV.rw 8 0 L.length 5 0))(d:ai (pa 41) σ= .fr S.length 1 (strs S))(e:mk (ai (pa 42) σ)= .si .i64 ((S.length:Int)))(f:mk (ai (pa 43) σ)= .si .i64 ((i:Int)))(t:H.get 0=some (.cells [.map 1] true))(u:H.get 1=some (c.O kT gR))(v:(∃l,H.get a=some (.cells l true)/\l.map mk=ruL (L))∨((L)=[]/\n<=a)):Cov p σ H n ((Ox c N S L i).1,(Ox c N S L i).2,9):=
 Cov.ofB (λb=>if b=8 then a else b) (by omega) (λb j=>by repeat' rw[if_neg (by omega)]) ⟨.ptr (by decide) e0,ae.frE r,s,ae.frE d,.int e,.int f,trivial⟩ ⟨.inl ⟨_,t,ak.bz (k:=2) rfl (by decide) (λb j=>by rw[if_neg (by omega)])⟩,.inl ⟨_,u,ak.bz (k:=0) (aC bK iX) (by decide) (λb j=>absurd j (q0o b))⟩,v.elim (λ⟨l,h,g⟩=> .inl ⟨_,h,ak.bu (iW _) (by rw[g,dC]) (λq=>q)⟩) (λh=> .inr ⟨by rw[h.1];rfl,h.2⟩),trivial⟩ rfl (λx m y o=>by simp only[Z5,Z4,or_false]at m o;rcases m with rfl|rfl|rfl<;>rcases o with rfl|rfl|rfl<;>simp<;>omega)
def Oy (c:GrC) (N:List Tx) (S:List Tx) (L:List Rl) (s:Tx) (i:Nat) (j:Nat):AE×AH:=(mkE [(0,.ptr 0 (0)),(5,.fr N.length 1 (strs N)),(9,AV.rw 8 0 L.length 5 0),(11,.ss (s)),(41,.fr S.length 1 (strs S)),(42,.si .i64 ((S.length:Int))),(43,.si .i64 ((i:Int))),(47,.fr N.length 1 (strs N)),(48,.si .i64 ((N.length:Int))),(49,.si .i64 ((j:Int)))],mkH [(0,.cells [.map 1] true),(1,c.O kT gR),(8,.cells (ruL (L)) true)])
theorem tW{c:GrC}{N:List Tx}{S:List Tx}{L:List Rl}{s:Tx}{i:Nat}{j:Nat}{p n:Nat}{σ:AE}{H:AH}(a:Nat)(E:a≠0/\a≠1)(F:p<=2)(e0:ai (pa 0) σ= .ptr 0 (0))(z:ai (pa 5) σ= .fr N.length 1 (strs N))(A:ae H 9 (λb=>if b=8 then a else b) (ai (pa 9) σ) (AV.rw 8 0 L.length 5 0))(d:mk (ai (pa 11) σ)= .ss (s))(e:ai (pa 41) σ= .fr S.length 1 (strs S))(f:mk (ai (pa 42) σ)= .si .i64 ((S.length:Int)))(m:mk (ai (pa 43) σ)= .si .i64 ((i:Int)))(o:ai (pa 47) σ= .fr N.length 1 (strs N))(r:mk (ai (pa 48) σ)= .si .i64 ((N.length:Int)))(t:mk (ai (pa 49) σ)= .si .i64 ((j:Int)))(B:H.get 0=some (.cells [.map 1] true))(C:H.get 1=some (c.O kT gR))(D:(∃l,H.get a=some (.cells l true)/\l.map mk=ruL (L))∨((L)=[]/\n<=a)):Cov p σ H n ((Oy c N S L s i j).1,(Oy c N S L s i j).2,9):=
 Cov.ofB (λb=>if b=8 then a else b) (by omega) (λb u=>by repeat' rw[if_neg (by omega)]) ⟨.ptr (by decide) e0,ae.frE z,A,.str d,ae.frE e,.int f,.int m,ae.frE o,.int r,.int t,trivial⟩ ⟨.inl ⟨_,B,ak.bz (k:=2) rfl (by decide) (λb u=>by rw[if_neg (by omega)])⟩,.inl ⟨_,C,ak.bz (k:=0) (aC bK iX) (by decide) (λb u=>absurd u (q0o b))⟩,D.elim (λ⟨l,h,g⟩=> .inl ⟨_,h,ak.bu (iW _) (by rw[g,dC]) (λq=>q)⟩) (λh=> .inr ⟨by rw[h.1];rfl,h.2⟩),trivial⟩ rfl (λx v y w=>by simp only[Z5,Z4,or_false]at v w;rcases v with rfl|rfl|rfl<;>rcases w with rfl|rfl|rfl<;>simp<;>omega)
theorem zS(x:Gr)(c:GrC)(u:yD x c)(X:c.A.length<=1000):ax KPk 5 53 [.ptr 0 0] (mkH (bE (grO c) 0)) 2 (gm GrB x (.fr (pkF c.A (λ_=>true)).length 5 (ruL (pkF c.A (λ_=>true))))):=by
 obtain⟨a,F⟩:∃a:Rl->Bool,a=λ_=>true:=⟨_,rfl⟩
 rw[<-F]
 conv=>whnf
 refine aN.mk {I:List Nat//RgI c I} 10 (λI=>Ow c I.val ((soV c.A a I.val).map Prod.fst) ((soV c.A a I.val).map λe=>e.2.src)) (λI=>c.A.length-I.val.length) ⟨[],.nil⟩ ?_ ?_
 focus
  exact jr (c:=c) (I:=[]) (V:=((soV c.A a []).map Prod.fst)) (W:=((soV c.A a []).map λe=>e.2.src)) 8 9 (by decide) (Z3 2) rfl (ae.c6 (k:=3) rfl rfl (by decide) (λb v=>by rw[if_neg (by omega),if_neg (by omega)])) (.iD rfl) (.iD rfl) rfl rfl rfl rfl (.inr ⟨rfl,by decide⟩) (.inr ⟨rfl,by decide⟩)
 intro⟨I,O⟩;have hIl:=O.len;have hle:(soV c.A a I).length<=I.length:=q0d (kG _) (Nat.le_of_eq (vn O));have p:(((soV c.A a I).map Prod.fst).length+1)*16<=140737488355328:=by rw[q0g];omega
 have t:(((soV c.A a I).map λe=>e.2.src).length+1)*16<=140737488355328:=by rw[q0g];omega
 have w:bl (strs ((soV c.A a I).map Prod.fst)) 0 (((soV c.A a I).map Prod.fst).length*1)=some (strs ((soV c.A a I).map Prod.fst)):=bj (by rw[aV,q0r]);have y:bl (strs ((soV c.A a I).map λe=>e.2.src)) 0 (((soV c.A a I).map λe=>e.2.src).length*1)=some (strs ((soV c.A a I).map λe=>e.2.src)):=bj (by rw[aV,q0r])
 conv=>whnf
 refine Nxt.mp 2 1 c.cl _ _ _ rfl rfl rfl rfl u.o.lt (λho=>?_) (λi e x B Y hn=>?_)
 rotate_left
 focus
  obtain⟨G,rfl⟩:=p5 B;obtain⟨n,Z⟩:=O.step G Y hn;have C:di c.bs I++ [x]=di c.bs (I++ [i]):=(kO Y).symm;have D:c.A.length-(I++ [i]).length<c.A.length-I.length:=by have:=n.len;simp only[Z6,q2b]at this⊢;omega
  have hnd:=u.o.nd;have P:=xZ (so:=a) (I:=I) G
  have yes:a c.A[i].2=true->((strs ((soV c.A a I).map Prod.fst)++ [AV.ss c.A[i].1]).map mk=strs ((soV c.A a (I++ [i])).map Prod.fst)/\((soV c.A a I).map Prod.fst).length+1=((soV c.A a (I++ [i])).map Prod.fst).length)/\(strs ((soV c.A a I).map λe=>e.2.src)++ [AV.ss c.A[i].2.src]).map mk=strs ((soV c.A a (I++ [i])).map λe=>e.2.src)/\((soV c.A a I).map λe=>e.2.src).length+1=((soV c.A a (I++ [i])).map λe=>e.2.src).length:=λq=>by
   have eV:(soV c.A a (I++ [i])).map Prod.fst=(soV c.A a I).map Prod.fst++ [c.A[i].1]:=by rw[P,if_pos q,q0x];rfl
   have eW:(soV c.A a (I++ [i])).map (λe=>e.2.src)=(soV c.A a I).map (λe=>e.2.src)++ [c.A[i].2.src]:=by rw[P,if_pos q,q0x];rfl
   rw[eV,eW];exact⟨⟨dJ _ _,by rw[Z6];rfl⟩,dJ _ _,by rw[Z6];rfl⟩
  have no:a c.A[i].2=false->soV c.A a (I++ [i])=soV c.A a I:=λq=>by
   rw[P,q];simp
  clear P
  conv=>whnf
  refine Ent.mp 2 1 c.cl i x (di c.bs I) (iV kT gR c.A) c.bs _ rfl rfl rfl hnd Y B ?_
  conv=>whnf
  have q:=yes (by rw[F])
  conv=>whnf
  refine⟨?_,?_,?_,?_,?_,?_,trivial⟩
  focus
   conv=>whnf
   refine bF.grow 1 16 _ _ _ _ _ _ tyT (.old rfl) rfl rfl (.rw rfl w) p ?_
   conv=>whnf
   refine bF.grow 1 16 _ _ _ _ _ _ tyT (.old rfl) rfl rfl (.rw rfl y) t ?_
   conv=>whnf
   refine⟨⟨I++ [i],n⟩,D,?_⟩;refine jr (c:=c) (I:=I++ [i]) (V:=((soV c.A a (I++ [i])).map Prod.fst)) (W:=((soV c.A a (I++ [i])).map λe=>e.2.src)) 13 15 ?_ ?_ ?_ ?_ ?_ ?_ ?_ ?_ ?_ ?_ ?_ ?_
   ·exact by decide
   ·exact Z3 2
   ·exact rfl
   ·exact ae.c6 (k:=3) rfl rfl (by decide) (λb v=>by rw[if_neg (by omega),if_neg (by omega)])
   ·exact .rw (by decide) rfl q.1.2
   ·exact .rw (by decide) rfl q.2.2
   ·exact rfl
   ·exact rfl
   ·exact rfl
   ·exact congrArg (λs=>some (AO.iter 1 c.cl s)) C
   ·exact .inl ⟨_,rfl,q.1.1⟩
   ·exact .inl ⟨_,rfl,q.2.1⟩
  focus
   conv=>whnf
   refine bF.grow 1 16 _ _ _ _ _ _ tyT (.old rfl) rfl rfl (.rw rfl w) p ?_
   conv=>whnf
   refine bF.grow 1 16 _ _ _ _ _ _ tyT (.old rfl) rfl rfl (.rw rfl y) t ?_
   conv=>whnf
   refine⟨⟨I++ [i],n⟩,D,?_⟩;refine jr (c:=c) (I:=I++ [i]) (V:=((soV c.A a (I++ [i])).map Prod.fst)) (W:=((soV c.A a (I++ [i])).map λe=>e.2.src)) 13 15 ?_ ?_ ?_ ?_ ?_ ?_ ?_ ?_ ?_ ?_ ?_ ?_
   ·exact by decide
   ·exact Z3 2
   ·exact rfl
   ·exact ae.c6 (k:=3) rfl rfl (by decide) (λb v=>by rw[if_neg (by omega),if_neg (by omega)])
   ·exact .rw (by decide) rfl q.1.2
   ·exact .rw (by decide) rfl q.2.2
   ·exact rfl
   ·exact rfl
   ·exact rfl
   ·exact congrArg (λs=>some (AO.iter 1 c.cl s)) C
   ·exact .inl ⟨_,rfl,q.1.1⟩
   ·exact .inl ⟨_,rfl,q.2.1⟩
  focus
   conv=>whnf
   refine bF.grow 1 16 _ _ _ _ _ _ tyT (.old rfl) rfl rfl (.rw rfl w) p ?_
   conv=>whnf
   refine bF.grow 1 16 _ _ _ _ _ _ tyT (.old rfl) rfl rfl (.rw rfl y) t ?_
   conv=>whnf
   refine⟨⟨I++ [i],n⟩,D,?_⟩;refine jr (c:=c) (I:=I++ [i]) (V:=((soV c.A a (I++ [i])).map Prod.fst)) (W:=((soV c.A a (I++ [i])).map λe=>e.2.src)) 14 15 ?_ ?_ ?_ ?_ ?_ ?_ ?_ ?_ ?_ ?_ ?_ ?_
   ·exact by decide
   ·exact Z3 2
   ·exact rfl
   ·exact ae.c6 (k:=3) rfl rfl (by decide) (λb v=>by rw[if_neg (by omega),if_neg (by omega)])
   ·exact .rw (by decide) rfl q.1.2
   ·exact .rw (by decide) rfl q.2.2
   ·exact rfl
   ·exact rfl
   ·exact rfl
   ·exact congrArg (λs=>some (AO.iter 1 c.cl s)) C
   ·exact .inl ⟨_,rfl,q.1.1⟩
   ·exact .inl ⟨_,rfl,q.2.1⟩
  focus
   conv=>whnf
   refine bF.grow 1 16 _ _ _ _ _ _ tyT (.old rfl) rfl rfl (.rw rfl w) p ?_
   conv=>whnf
   refine bF.grow 1 16 _ _ _ _ _ _ tyT (.old rfl) rfl rfl (.rw rfl y) t ?_
   conv=>whnf
   refine⟨⟨I++ [i],n⟩,D,?_⟩;refine jr (c:=c) (I:=I++ [i]) (V:=((soV c.A a (I++ [i])).map Prod.fst)) (W:=((soV c.A a (I++ [i])).map λe=>e.2.src)) 13 15 ?_ ?_ ?_ ?_ ?_ ?_ ?_ ?_ ?_ ?_ ?_ ?_
   ·exact by decide
   ·exact Z3 2
   ·exact rfl
   ·exact ae.c6 (k:=3) rfl rfl (by decide) (λb v=>by rw[if_neg (by omega),if_neg (by omega)])
   ·exact .rw (by decide) rfl q.1.2
   ·exact .rw (by decide) rfl q.2.2
   ·exact rfl
   ·exact rfl
   ·exact rfl
   ·exact congrArg (λs=>some (AO.iter 1 c.cl s)) C
   ·exact .inl ⟨_,rfl,q.1.1⟩
   ·exact .inl ⟨_,rfl,q.2.1⟩
  focus
   conv=>whnf
   refine bF.grow 1 16 _ _ _ _ _ _ tyT (.old rfl) rfl rfl (.rw rfl w) p ?_
   conv=>whnf
   refine bF.grow 1 16 _ _ _ _ _ _ tyT (.old rfl) rfl rfl (.rw rfl y) t ?_
   conv=>whnf
   refine⟨⟨I++ [i],n⟩,D,?_⟩;refine jr (c:=c) (I:=I++ [i]) (V:=((soV c.A a (I++ [i])).map Prod.fst)) (W:=((soV c.A a (I++ [i])).map λe=>e.2.src)) 14 15 ?_ ?_ ?_ ?_ ?_ ?_ ?_ ?_ ?_ ?_ ?_ ?_
   ·exact by decide
   ·exact Z3 2
   ·exact rfl
   ·exact ae.c6 (k:=3) rfl rfl (by decide) (λb v=>by rw[if_neg (by omega),if_neg (by omega)])
   ·exact .rw (by decide) rfl q.1.2
   ·exact .rw (by decide) rfl q.2.2
   ·exact rfl
   ·exact rfl
   ·exact rfl
   ·exact congrArg (λs=>some (AO.iter 1 c.cl s)) C
   ·exact .inl ⟨_,rfl,q.1.1⟩
   ·exact .inl ⟨_,rfl,q.2.1⟩
  focus
   conv=>whnf
   refine bF.grow 1 16 _ _ _ _ _ _ tyT (.old rfl) rfl rfl (.rw rfl w) p ?_
   conv=>whnf
   refine bF.grow 1 16 _ _ _ _ _ _ tyT (.old rfl) rfl rfl (.rw rfl y) t ?_
   conv=>whnf
   refine⟨⟨I++ [i],n⟩,D,?_⟩;refine jr (c:=c) (I:=I++ [i]) (V:=((soV c.A a (I++ [i])).map Prod.fst)) (W:=((soV c.A a (I++ [i])).map λe=>e.2.src)) 14 15 ?_ ?_ ?_ ?_ ?_ ?_ ?_ ?_ ?_ ?_ ?_ ?_
   ·exact by decide
   ·exact Z3 2
   ·exact rfl
   ·exact ae.c6 (k:=3) rfl rfl (by decide) (λb v=>by rw[if_neg (by omega),if_neg (by omega)])
   ·exact .rw (by decide) rfl q.1.2
   ·exact .rw (by decide) rfl q.2.2
   ·exact rfl
   ·exact rfl
   ·exact rfl
   ·exact congrArg (λs=>some (AO.iter 1 c.cl s)) C
   ·exact .inl ⟨_,rfl,q.1.1⟩
   ·exact .inl ⟨_,rfl,q.2.1⟩
 have hd:∀e∈c.A,e.2.dst=e.1:=λe B=>u.dst e (by rw[<-u.A];exact B)
 obtain⟨p1,p2⟩:=O.sQ u.o.nd u.o.len ho;have pp:(soV c.A a I).Perm (c.A.filter λe=>a e.2):=p1.filter _;have eN:=iv (pp.map Prod.fst);have eS:=iv (pp.map λe=>e.2.src);have lV:((soV c.A a I).map Prod.fst).length<=1000000:=by rw[q0g];omega
 have lW:((soV c.A a I).map λe=>e.2.src).length<=1000000:=by rw[q0g];omega
 obtain⟨N,Q⟩:∃N,N=aK ((soV c.A a I).map Prod.fst):=⟨_,rfl⟩;obtain⟨S,hS⟩:∃S,S=aK ((soV c.A a I).map λe=>e.2.src):=⟨_,rfl⟩;have lN:N.length<=1000:=by rw[Q];have:=cw ((soV c.A a I).map Prod.fst);rw[q0g]at this;omega
 have lS:S.length<=1000:=by rw[hS];have:=cw ((soV c.A a I).map λe=>e.2.src);rw[q0g]at this;omega
 have gN:∀d∈N,∃r,aD c.A d=some r:=λd hd=>by
  rw[Q,(ba _).2,q0p]at hd;obtain⟨e,B,rfl⟩:=hd;exact⟨e.2,cV u.o.key (BE (q1d.1 B).1)⟩
 have fin:S.flatMap (pkS N c.A)=pkF c.A a:=by rw[Q,hS,eN,eS];rfl
 have vN:AV.fr N.length 1 (strs N)= .fr (aK ((soV c.A a I).map Prod.fst)).length 1 (strs (aK ((soV c.A a I).map Prod.fst))):=by rw[Q]
 have vS:AV.fr S.length 1 (strs S)= .fr (aK ((soV c.A a I).map λe=>e.2.src)).length 1 (strs (aK ((soV c.A a I).map λe=>e.2.src))):=by rw[hS]
 clear eN eS pp
 conv=>whnf
 refine⟨_,.fr N.length 1 (strs N),_,.cons (.row (l:=strs ((soV c.A a I).map Prod.fst)) (z:=true) rfl (bX _) (by rw[aV,q0r]) rfl) .nil,⟨_,rfl,lV,vN⟩,?_⟩
 conv=>whnf
 refine⟨_,.fr S.length 1 (strs S),_,.cons (.row (l:=strs ((soV c.A a I).map λe=>e.2.src)) (z:=true) rfl (bX _) (by rw[aV,q0r]) rfl) .nil,⟨_,rfl,lW,vS⟩,?_⟩;have lP:∀(M:List Tx) (s:Tx),(pkS M c.A s).length<=M.length:=λM s=>by unfold pkS;rw[q0g];exact kG _
 have lL:∀i,((S.take i).flatMap (pkS N c.A)).length<=1000000:=λi=>by
  have h1:=sR (L:=S.take i) (f:=pkS N c.A) (b:=1000) λs _=>q0d (lP N s) lN
  have h2:(S.take i).length<=1000:=q0d (by rw[q0l];exact Nat.min_le_right _ _) lS;omega
 conv=>whnf
 refine aN.mk {i:Nat//i<=S.length} 9 (λi=>Ox c N S ((S.take i.val).flatMap (pkS N c.A)) i.val) (λi=>S.length-i.val) ⟨0,Z9 _⟩ ?_ ?_
 focus
  exact zQ (c:=c) (N:=N) (S:=S) (L:=(S.take 0).flatMap (pkS N c.A)) (i:=0) 10 (by decide) (Z3 2) rfl rfl (.iD rfl) rfl rfl rfl rfl rfl (.inr ⟨rfl,by decide⟩)
 intro⟨i,Z⟩;have Z:i<=S.length:=Z;have hw:IntKind.i64.wrap ((i:Int)+1)=((i+1:Nat):Int):=by rw[aj (by omega) (by omega)];omega
 have lLi:=lL i
 conv=>whnf
 refine ag.dec (λh=>?_) (λh=>?_)
 focus
  have T:i<S.length:=q0v.1 h;have e3:(S.take (i+1)).flatMap (pkS N c.A)=(S.take i).flatMap (pkS N c.A)++pkS N c.A S[i]:=by rw[q0c T,List.flatMap_append];simp
  conv=>whnf
  refine Idx.mk i rfl T ?_
  conv=>whnf
  refine aq (cL T (q0r _)) ?_
  conv=>whnf
  refine aN.mk {j:Nat//j<=N.length} 9 (λj=>Oy c N S ((S.take i).flatMap (pkS N c.A)++pkS (N.take j.val) c.A S[i]) S[i] i j.val) (λj=>N.length-j.val) ⟨0,Z9 _⟩ ?_ ?_
  focus
   exact tW (c:=c) (N:=N) (S:=S) (L:=(S.take i).flatMap (pkS N c.A)++pkS (N.take 0) c.A S[i]) (s:=S[i]) (i:=i) (j:=0) 8 (by decide) (Z3 2) rfl rfl (.rw (by decide) rfl (by rw[Z6];rfl)) rfl rfl rfl rfl rfl rfl rfl rfl rfl (.inl ⟨_,rfl,by rw[dC];exact congrArg ruL (q1e _).symm⟩)
  intro⟨j,hj⟩;have hj:j<=N.length:=hj;have H:IntKind.i64.wrap ((j:Int)+1)=((j+1:Nat):Int):=by rw[aj (by omega) (by omega)];omega
  obtain⟨L,J⟩:∃L,L=(S.take i).flatMap (pkS N c.A)++pkS (N.take j) c.A S[i]:=⟨_,rfl⟩
  have bL:L.length<=1001000:=by
   have h1:=lP (N.take j) S[i];rw[q0l]at h1;rw[J,Z6];omega
  rw[<-J]
  conv=>whnf
  refine ag.dec (λh=>?_) (λh=>?_)
  focus
   have E:j<N.length:=q0v.1 h;obtain⟨r,hr⟩:=gN N[j] (q0k E);have er:rul c.A N[j]=r:=by unfold rul;rw[hr];rfl
   have U:=xY (R:=c.A) (s:=S[i]) E;rw[er]at U;have K:N.length-(j+1)<N.length-j:=by omega
   have y1:db r.src S[i]=true->L++ [r]=(S.take i).flatMap (pkS N c.A)++pkS (N.take (j+1)) c.A S[i]:=λq=>by rw[U,if_pos (a8.1 q),J,q1a]
   have y0:db r.src S[i]=false->L=(S.take i).flatMap (pkS N c.A)++pkS (N.take (j+1)) c.A S[i]:=λq=>by
    have:r.src≠S[i]:=λe=>by rw[a8.2 e]at q;cases q
    rw[U,if_neg this,q1e,J]
   have hsL:bl (ruL L) 0 (L.length*5)=some (ruL L):=bj (jq L);have hbL:(L.length+1)*56<=140737488355328:=by omega
   clear U
   conv=>whnf
   refine Idx.mk j rfl E ?_
   conv=>whnf
   refine aq (cL E (q0r _)) ?_
   conv=>whnf
   refine Ask.mk _ (bb (m:=c) (g:=gR) (k:=N[j]) bP mkR rfl rfl rfl lB hr) ?_
   conv=>whnf
   refine ag.sb (λz=>?_) (λz=>?_)
   focus
    have q:=y1 z
    conv=>whnf
    refine Ask.mk _ (bb (m:=c) (g:=gR) (k:=N[j]) bP mkR rfl rfl rfl lB hr) ?_
    conv=>whnf
    refine bF.grow 5 56 _ _ _ _ _ _ U2 (.old rfl) rfl rfl (.rw rfl hsL) hbL ?_
    conv=>whnf
    exact⟨⟨j+1,E⟩,K,tW (c:=c) (N:=N) (S:=S) (L:=(S.take i).flatMap (pkS N c.A)++pkS (N.take (j+1)) c.A S[i]) (s:=S[i]) (i:=i) (j:=j+1) 10 (by decide) (Z3 2) rfl rfl (.rw (by decide) rfl (by rw[<-q,Z6];rfl)) rfl rfl rfl rfl rfl rfl (congrArg (AV.si .i64) H) rfl rfl (.inl ⟨_,rfl,by rw[<-q];exact xW L r⟩)⟩
   have q:=y0 z
   conv=>whnf
   exact⟨⟨j+1,E⟩,K,tW (c:=c) (N:=N) (S:=S) (L:=(S.take i).flatMap (pkS N c.A)++pkS (N.take (j+1)) c.A S[i]) (s:=S[i]) (i:=i) (j:=j+1) 8 (by decide) (Z3 2) rfl rfl (.rw (by decide) rfl (by rw[<-q])) rfl rfl rfl rfl rfl rfl (congrArg (AV.si .i64) H) rfl rfl (.inl ⟨_,rfl,by rw[<-q];exact dC L⟩)⟩
  have ej:j=N.length:=by have h:¬(j:Int)<(N.length:Int):=h;omega
  have eL:L=(S.take (i+1)).flatMap (pkS N c.A):=by rw[J,ej,q0u,e3]
  conv=>whnf
  exact⟨⟨i+1,T⟩,by show S.length-(i+1)<S.length-i;omega,zQ (c:=c) (N:=N) (S:=S) (L:=(S.take (i+1)).flatMap (pkS N c.A)) (i:=i+1) 8 (by decide) (Z3 2) rfl rfl (.rw (by decide) rfl (by rw[eL])) rfl rfl (congrArg (AV.si .i64) hw) rfl rfl (.inl ⟨_,rfl,by rw[eL];exact dC _⟩)⟩
 have ei:i=S.length:=by have h:¬(i:Int)<(S.length:Int):=h;omega
 have eF:(S.take i).flatMap (pkS N c.A)=pkF c.A a:=by rw[ei,q0u,fin]
 conv=>whnf
 exact⟨_,c,Re.UX rfl (congrArg List.length eF) rfl (iW _) (jq _) (by rw[eF]),u,mW rfl rfl⟩
def U6 (k:Tx) (c:GrC) (I:List Nat) (V:List Tx) (W:List Tx):AE×AH:=(mkE [(0,.ptr 0 (0)),(1,AV.fn 189 [] [.ptr 2 0]),(5,.rw 8 0 V.length 1 0),(6,.rw 9 0 W.length 1 0),(20,.ptr 3 (0))],mkH [(0,.cells [.map 1] true),(1,c.O kT gR),(2,.cells [.ss k] true),(3,AO.iter 1 c.cl (di c.bs I)),(8,.cells (strs (V)) true),(9,.cells (strs (W)) true)])
theorem jP{k:Tx}{c:GrC}{I:List Nat}{V:List Tx}{W:List Tx}{p n:Nat}{σ:AE}{H:AH}(a:Nat)(d:Nat)(A:a≠0/\a≠1/\a≠2/\a≠3/\a≠d/\d≠0/\d≠1/\d≠2/\d≠3)(B:p<=3)(e0:ai (pa 0) σ= .ptr 0 (0))(m:ae H 10 (λb=>if b=8 then a else if b=9 then d else b) (ai (pa 1) σ) (AV.fn 189 [] [.ptr 2 0]))(o:ae H 10 (λb=>if b=8 then a else if b=9 then d else b) (ai (pa 5) σ) (.rw 8 0 V.length 1 0))(r:ae H 10 (λb=>if b=8 then a else if b=9 then d else b) (ai (pa 6) σ) (.rw 9 0 W.length 1 0))(f:ai (pa 20) σ= .ptr 3 (0))(s:H.get 0=some (.cells [.map 1] true))(t:H.get 1=some (c.O kT gR))(u:H.get 2=some (.cells [.ss k] true))(v:H.get 3=some (AO.iter 1 c.cl (di c.bs I)))(w:(∃l,H.get a=some (.cells l true)/\l.map mk=strs (V))∨((V)=[]/\n<=a))(z:(∃l,H.get d=some (.cells l true)/\l.map mk=strs (W))∨((W)=[]/\n<=d)):Cov p σ H n ((U6 k c I V W).1,(U6 k c I V W).2,10):=
 Cov.ofB (λb=>if b=8 then a else if b=9 then d else b) (by omega) (λb e=>by repeat' rw[if_neg (by omega)]) ⟨.ptr (by decide) e0,m,o,r,.ptr (by decide) f,trivial⟩ ⟨.inl ⟨_,s,ak.bz (k:=2) rfl (by decide) (λb e=>by rw[if_neg (by omega),if_neg (by omega)])⟩,.inl ⟨_,t,ak.bz (k:=0) (aC bK iX) (by decide) (λb e=>absurd e (q0o b))⟩,.inl ⟨_,u,ak.bz (k:=0) rfl (by decide) (λb e=>absurd e (q0o b))⟩,.inl ⟨_,v,ak.xU (by decide) rfl⟩,w.elim (λ⟨l,h,g⟩=> .inl ⟨_,h,ak.bu (bX _) (by rw[g,cZ]) (λq=>q)⟩) (λh=> .inr ⟨by rw[h.1];rfl,h.2⟩),z.elim (λ⟨l,h,g⟩=> .inl ⟨_,h,ak.bu (bX _) (by rw[g,cZ]) (λq=>q)⟩) (λh=> .inr ⟨by rw[h.1];rfl,h.2⟩),trivial⟩ rfl (λx i y j=>by simp only[Z5,Z4,or_false]at i j;rcases i with rfl|rfl|rfl|rfl|rfl|rfl<;>rcases j with rfl|rfl|rfl|rfl|rfl|rfl<;>simp<;>omega)
def U7 (k:Tx) (c:GrC) (N:List Tx) (S:List Tx) (L:List Rl) (i:Nat):AE×AH:=(mkE [(0,.ptr 0 (0)),(5,.fr N.length 1 (strs N)),(9,AV.rw 8 0 L.length 5 0),(41,.fr S.length 1 (strs S)),(42,.si .i64 ((S.length:Int))),(43,.si .i64 ((i:Int)))],mkH [(0,.cells [.map 1] true),(1,c.O kT gR),(2,.cells [.ss k] true),(8,.cells (ruL (L)) true)])
theorem Eg{k:Tx}{c:GrC}{N:List Tx}{S:List Tx}{L:List Rl}{i:Nat}{p n:Nat}{σ:AE}{H:AH}(a:Nat)(z:a≠0/\a≠1/\a≠2)(A:p<=3)(e0:ai (pa 0) σ= .ptr 0 (0))(r:ai (pa 5) σ= .fr N.length 1 (strs N))(s:ae H 9 (λb=>if b=8 then a else b) (ai (pa 9) σ) (AV.rw 8 0 L.length 5 0))(e:ai (pa 41) σ= .fr S.length 1 (strs S))(f:mk (ai (pa 42) σ)= .si .i64 ((S.length:Int)))(j:mk (ai (pa 43) σ)= .si .i64 ((i:Int)))(t:H.get 0=some (.cells [.map 1] true))(u:H.get 1=some (c.O kT gR))(v:H.get 2=some (.cells [.ss k] true))(w:(∃l,H.get a=some (.cells l true)/\l.map mk=ruL (L))∨((L)=[]/\n<=a)):Cov p σ H n ((U7 k c N S L i).1,(U7 k c N S L i).2,9):=
 Cov.ofB (λb=>if b=8 then a else b) (by omega) (λb d=>by repeat' rw[if_neg (by omega)]) ⟨.ptr (by decide) e0,ae.frE r,s,ae.frE e,.int f,.int j,trivial⟩ ⟨.inl ⟨_,t,ak.bz (k:=2) rfl (by decide) (λb d=>by rw[if_neg (by omega)])⟩,.inl ⟨_,u,ak.bz (k:=0) (aC bK iX) (by decide) (λb d=>absurd d (q0o b))⟩,.inl ⟨_,v,ak.bz (k:=0) rfl (by decide) (λb d=>absurd d (q0o b))⟩,w.elim (λ⟨l,h,g⟩=> .inl ⟨_,h,ak.bu (iW _) (by rw[g,dC]) (λq=>q)⟩) (λh=> .inr ⟨by rw[h.1];rfl,h.2⟩),trivial⟩ rfl (λx m y o=>by simp only[Z5,Z4,or_false]at m o;rcases m with rfl|rfl|rfl|rfl<;>rcases o with rfl|rfl|rfl|rfl<;>simp<;>omega)
def U8 (k:Tx) (c:GrC) (N:List Tx) (S:List Tx) (L:List Rl) (s:Tx) (i:Nat) (j:Nat):AE×AH:=(mkE [(0,.ptr 0 (0)),(5,.fr N.length 1 (strs N)),(9,AV.rw 8 0 L.length 5 0),(11,.ss (s)),(41,.fr S.length 1 (strs S)),(42,.si .i64 ((S.length:Int))),(43,.si .i64 ((i:Int))),(47,.fr N.length 1 (strs N)),(48,.si .i64 ((N.length:Int))),(49,.si .i64 ((j:Int)))],mkH [(0,.cells [.map 1] true),(1,c.O kT gR),(2,.cells [.ss k] true),(8,.cells (ruL (L)) true)])
theorem x4{k:Tx}{c:GrC}{N:List Tx}{S:List Tx}{L:List Rl}{s:Tx}{i:Nat}{j:Nat}{p n:Nat}{σ:AE}{H:AH}(a:Nat)(F:a≠0/\a≠1/\a≠2)(G:p<=3)(e0:ai (pa 0) σ= .ptr 0 (0))(z:ai (pa 5) σ= .fr N.length 1 (strs N))(A:ae H 9 (λb=>if b=8 then a else b) (ai (pa 9) σ) (AV.rw 8 0 L.length 5 0))(e:mk (ai (pa 11) σ)= .ss (s))(f:ai (pa 41) σ= .fr S.length 1 (strs S))(m:mk (ai (pa 42) σ)= .si .i64 ((S.length:Int)))(o:mk (ai (pa 43) σ)= .si .i64 ((i:Int)))(r:ai (pa 47) σ= .fr N.length 1 (strs N))(t:mk (ai (pa 48) σ)= .si .i64 ((N.length:Int)))(u:mk (ai (pa 49) σ)= .si .i64 ((j:Int)))(B:H.get 0=some (.cells [.map 1] true))(C:H.get 1=some (c.O kT gR))(D:H.get 2=some (.cells [.ss k] true))(E:(∃l,H.get a=some (.cells l true)/\l.map mk=ruL (L))∨((L)=[]/\n<=a)):Cov p σ H n ((U8 k c N S L s i j).1,(U8 k c N S L s i j).2,9):=
 Cov.ofB (λb=>if b=8 then a else b) (by omega) (λb d=>by repeat' rw[if_neg (by omega)]) ⟨.ptr (by decide) e0,ae.frE z,A,.str e,ae.frE f,.int m,.int o,ae.frE r,.int t,.int u,trivial⟩ ⟨.inl ⟨_,B,ak.bz (k:=2) rfl (by decide) (λb d=>by rw[if_neg (by omega)])⟩,.inl ⟨_,C,ak.bz (k:=0) (aC bK iX) (by decide) (λb d=>absurd d (q0o b))⟩,.inl ⟨_,D,ak.bz (k:=0) rfl (by decide) (λb d=>absurd d (q0o b))⟩,E.elim (λ⟨l,h,g⟩=> .inl ⟨_,h,ak.bu (iW _) (by rw[g,dC]) (λq=>q)⟩) (λh=> .inr ⟨by rw[h.1];rfl,h.2⟩),trivial⟩ rfl (λx v y w=>by simp only[Z5,Z4,or_false]at v w;rcases v with rfl|rfl|rfl|rfl<;>rcases w with rfl|rfl|rfl|rfl<;>simp<;>omega)
theorem Eh(x:Gr)(k:Tx)(c:GrC)(u:yD x c)(X:c.A.length<=1000):ax KPk 5 133 [.ptr 0 0,.ss k] (mkH (bE (grO c) 0)) 2 (gm GrB x (.fr (pkF c.A (λr=>decide (r.src=k))).length 5 (ruL (pkF c.A (λr=>decide (r.src=k)))))):=by
 obtain⟨a,v⟩:∃a:Rl->Bool,a=λr=>decide (r.src=k):=⟨_,rfl⟩
 rw[<-v]
 conv=>whnf
 refine aN.mk {I:List Nat//RgI c I} 10 (λI=>U6 k c I.val ((soV c.A a I.val).map Prod.fst) ((soV c.A a I.val).map λe=>e.2.src)) (λI=>c.A.length-I.val.length) ⟨[],.nil⟩ ?_ ?_
 focus
  exact jP (c:=c) (I:=[]) (V:=((soV c.A a []).map Prod.fst)) (W:=((soV c.A a []).map λe=>e.2.src)) 8 9 (by decide) (Z3 3) rfl (ae.c6 (k:=3) rfl rfl (by decide) (λb w=>by rw[if_neg (by omega),if_neg (by omega)])) (.iD rfl) (.iD rfl) rfl rfl rfl rfl rfl (.inr ⟨rfl,by decide⟩) (.inr ⟨rfl,by decide⟩)
 intro⟨I,O⟩;have hIl:=O.len;have hle:(soV c.A a I).length<=I.length:=q0d (kG _) (Nat.le_of_eq (vn O));have p:(((soV c.A a I).map Prod.fst).length+1)*16<=140737488355328:=by rw[q0g];omega
 have t:(((soV c.A a I).map λe=>e.2.src).length+1)*16<=140737488355328:=by rw[q0g];omega
 have C:bl (strs ((soV c.A a I).map Prod.fst)) 0 (((soV c.A a I).map Prod.fst).length*1)=some (strs ((soV c.A a I).map Prod.fst)):=bj (by rw[aV,q0r]);have D:bl (strs ((soV c.A a I).map λe=>e.2.src)) 0 (((soV c.A a I).map λe=>e.2.src).length*1)=some (strs ((soV c.A a I).map λe=>e.2.src)):=bj (by rw[aV,q0r])
 conv=>whnf
 refine Nxt.mp 3 1 c.cl _ _ _ rfl rfl rfl rfl u.o.lt (λho=>?_) (λi e x E Y hn=>?_)
 rotate_left
 focus
  obtain⟨G,rfl⟩:=p5 E;obtain⟨n,Z⟩:=O.step G Y hn;have y:di c.bs I++ [x]=di c.bs (I++ [i]):=(kO Y).symm;have B:c.A.length-(I++ [i]).length<c.A.length-I.length:=by have:=n.len;simp only[Z6,q2b]at this⊢;omega
  have hnd:=u.o.nd;have P:=xZ (so:=a) (I:=I) G
  have yes:a c.A[i].2=true->((strs ((soV c.A a I).map Prod.fst)++ [AV.ss c.A[i].1]).map mk=strs ((soV c.A a (I++ [i])).map Prod.fst)/\((soV c.A a I).map Prod.fst).length+1=((soV c.A a (I++ [i])).map Prod.fst).length)/\(strs ((soV c.A a I).map λe=>e.2.src)++ [AV.ss c.A[i].2.src]).map mk=strs ((soV c.A a (I++ [i])).map λe=>e.2.src)/\((soV c.A a I).map λe=>e.2.src).length+1=((soV c.A a (I++ [i])).map λe=>e.2.src).length:=λq=>by
   have eV:(soV c.A a (I++ [i])).map Prod.fst=(soV c.A a I).map Prod.fst++ [c.A[i].1]:=by rw[P,if_pos q,q0x];rfl
   have eW:(soV c.A a (I++ [i])).map (λe=>e.2.src)=(soV c.A a I).map (λe=>e.2.src)++ [c.A[i].2.src]:=by rw[P,if_pos q,q0x];rfl
   rw[eV,eW];exact⟨⟨dJ _ _,by rw[Z6];rfl⟩,dJ _ _,by rw[Z6];rfl⟩
  have no:a c.A[i].2=false->soV c.A a (I++ [i])=soV c.A a I:=λq=>by
   rw[P,q];simp
  clear P
  conv=>whnf
  refine Ent.mp 3 1 c.cl i x (di c.bs I) (iV kT gR c.A) c.bs _ rfl rfl rfl hnd Y E ?_
  conv=>whnf
  refine ag.sb (λz=>?_) (λz=>?_)
  focus
   have q:=yes (by rw[v];exact decide_eq_true (a8.1 z))
   conv=>whnf
   refine⟨?_,?_,?_,?_,?_,?_,trivial⟩
   focus
    conv=>whnf
    refine bF.grow 1 16 _ _ _ _ _ _ tyT (.old rfl) rfl rfl (.rw rfl C) p ?_
    conv=>whnf
    refine bF.grow 1 16 _ _ _ _ _ _ tyT (.old rfl) rfl rfl (.rw rfl D) t ?_
    conv=>whnf
    refine⟨⟨I++ [i],n⟩,B,?_⟩;refine jP (c:=c) (I:=I++ [i]) (V:=((soV c.A a (I++ [i])).map Prod.fst)) (W:=((soV c.A a (I++ [i])).map λe=>e.2.src)) 13 15 ?_ ?_ ?_ ?_ ?_ ?_ ?_ ?_ ?_ ?_ ?_ ?_ ?_
    ·exact by decide
    ·exact Z3 3
    ·exact rfl
    ·exact ae.c6 (k:=3) rfl rfl (by decide) (λb w=>by rw[if_neg (by omega),if_neg (by omega)])
    ·exact .rw (by decide) rfl q.1.2
    ·exact .rw (by decide) rfl q.2.2
    ·exact rfl
    ·exact rfl
    ·exact rfl
    ·exact rfl
    ·exact congrArg (λs=>some (AO.iter 1 c.cl s)) y
    ·exact .inl ⟨_,rfl,q.1.1⟩
    ·exact .inl ⟨_,rfl,q.2.1⟩
   focus
    conv=>whnf
    refine bF.grow 1 16 _ _ _ _ _ _ tyT (.old rfl) rfl rfl (.rw rfl C) p ?_
    conv=>whnf
    refine bF.grow 1 16 _ _ _ _ _ _ tyT (.old rfl) rfl rfl (.rw rfl D) t ?_
    conv=>whnf
    refine⟨⟨I++ [i],n⟩,B,?_⟩;refine jP (c:=c) (I:=I++ [i]) (V:=((soV c.A a (I++ [i])).map Prod.fst)) (W:=((soV c.A a (I++ [i])).map λe=>e.2.src)) 13 15 ?_ ?_ ?_ ?_ ?_ ?_ ?_ ?_ ?_ ?_ ?_ ?_ ?_
    ·exact by decide
    ·exact Z3 3
    ·exact rfl
    ·exact ae.c6 (k:=3) rfl rfl (by decide) (λb w=>by rw[if_neg (by omega),if_neg (by omega)])
    ·exact .rw (by decide) rfl q.1.2
    ·exact .rw (by decide) rfl q.2.2
    ·exact rfl
    ·exact rfl
    ·exact rfl
    ·exact rfl
    ·exact congrArg (λs=>some (AO.iter 1 c.cl s)) y
    ·exact .inl ⟨_,rfl,q.1.1⟩
    ·exact .inl ⟨_,rfl,q.2.1⟩
   focus
    conv=>whnf
    refine bF.grow 1 16 _ _ _ _ _ _ tyT (.old rfl) rfl rfl (.rw rfl C) p ?_
    conv=>whnf
    refine bF.grow 1 16 _ _ _ _ _ _ tyT (.old rfl) rfl rfl (.rw rfl D) t ?_
    conv=>whnf
    refine⟨⟨I++ [i],n⟩,B,?_⟩;refine jP (c:=c) (I:=I++ [i]) (V:=((soV c.A a (I++ [i])).map Prod.fst)) (W:=((soV c.A a (I++ [i])).map λe=>e.2.src)) 14 15 ?_ ?_ ?_ ?_ ?_ ?_ ?_ ?_ ?_ ?_ ?_ ?_ ?_
    ·exact by decide
    ·exact Z3 3
    ·exact rfl
    ·exact ae.c6 (k:=3) rfl rfl (by decide) (λb w=>by rw[if_neg (by omega),if_neg (by omega)])
    ·exact .rw (by decide) rfl q.1.2
    ·exact .rw (by decide) rfl q.2.2
    ·exact rfl
    ·exact rfl
    ·exact rfl
    ·exact rfl
    ·exact congrArg (λs=>some (AO.iter 1 c.cl s)) y
    ·exact .inl ⟨_,rfl,q.1.1⟩
    ·exact .inl ⟨_,rfl,q.2.1⟩
   focus
    conv=>whnf
    refine bF.grow 1 16 _ _ _ _ _ _ tyT (.old rfl) rfl rfl (.rw rfl C) p ?_
    conv=>whnf
    refine bF.grow 1 16 _ _ _ _ _ _ tyT (.old rfl) rfl rfl (.rw rfl D) t ?_
    conv=>whnf
    refine⟨⟨I++ [i],n⟩,B,?_⟩;refine jP (c:=c) (I:=I++ [i]) (V:=((soV c.A a (I++ [i])).map Prod.fst)) (W:=((soV c.A a (I++ [i])).map λe=>e.2.src)) 13 15 ?_ ?_ ?_ ?_ ?_ ?_ ?_ ?_ ?_ ?_ ?_ ?_ ?_
    ·exact by decide
    ·exact Z3 3
    ·exact rfl
    ·exact ae.c6 (k:=3) rfl rfl (by decide) (λb w=>by rw[if_neg (by omega),if_neg (by omega)])
    ·exact .rw (by decide) rfl q.1.2
    ·exact .rw (by decide) rfl q.2.2
    ·exact rfl
    ·exact rfl
    ·exact rfl
    ·exact rfl
    ·exact congrArg (λs=>some (AO.iter 1 c.cl s)) y
    ·exact .inl ⟨_,rfl,q.1.1⟩
    ·exact .inl ⟨_,rfl,q.2.1⟩
   focus
    conv=>whnf
    refine bF.grow 1 16 _ _ _ _ _ _ tyT (.old rfl) rfl rfl (.rw rfl C) p ?_
    conv=>whnf
    refine bF.grow 1 16 _ _ _ _ _ _ tyT (.old rfl) rfl rfl (.rw rfl D) t ?_
    conv=>whnf
    refine⟨⟨I++ [i],n⟩,B,?_⟩;refine jP (c:=c) (I:=I++ [i]) (V:=((soV c.A a (I++ [i])).map Prod.fst)) (W:=((soV c.A a (I++ [i])).map λe=>e.2.src)) 14 15 ?_ ?_ ?_ ?_ ?_ ?_ ?_ ?_ ?_ ?_ ?_ ?_ ?_
    ·exact by decide
    ·exact Z3 3
    ·exact rfl
    ·exact ae.c6 (k:=3) rfl rfl (by decide) (λb w=>by rw[if_neg (by omega),if_neg (by omega)])
    ·exact .rw (by decide) rfl q.1.2
    ·exact .rw (by decide) rfl q.2.2
    ·exact rfl
    ·exact rfl
    ·exact rfl
    ·exact rfl
    ·exact congrArg (λs=>some (AO.iter 1 c.cl s)) y
    ·exact .inl ⟨_,rfl,q.1.1⟩
    ·exact .inl ⟨_,rfl,q.2.1⟩
   focus
    conv=>whnf
    refine bF.grow 1 16 _ _ _ _ _ _ tyT (.old rfl) rfl rfl (.rw rfl C) p ?_
    conv=>whnf
    refine bF.grow 1 16 _ _ _ _ _ _ tyT (.old rfl) rfl rfl (.rw rfl D) t ?_
    conv=>whnf
    refine⟨⟨I++ [i],n⟩,B,?_⟩;refine jP (c:=c) (I:=I++ [i]) (V:=((soV c.A a (I++ [i])).map Prod.fst)) (W:=((soV c.A a (I++ [i])).map λe=>e.2.src)) 14 15 ?_ ?_ ?_ ?_ ?_ ?_ ?_ ?_ ?_ ?_ ?_ ?_ ?_
    ·exact by decide
    ·exact Z3 3
    ·exact rfl
    ·exact ae.c6 (k:=3) rfl rfl (by decide) (λb w=>by rw[if_neg (by omega),if_neg (by omega)])
    ·exact .rw (by decide) rfl q.1.2
    ·exact .rw (by decide) rfl q.2.2
    ·exact rfl
    ·exact rfl
    ·exact rfl
    ·exact rfl
    ·exact congrArg (λs=>some (AO.iter 1 c.cl s)) y
    ·exact .inl ⟨_,rfl,q.1.1⟩
    ·exact .inl ⟨_,rfl,q.2.1⟩
  have q:=no (by rw[v];exact decide_eq_false λe=>by rw[a8.2 e]at z;cases z)
  conv=>whnf
  refine⟨⟨I++ [i],n⟩,B,?_⟩;refine jP (c:=c) (I:=I++ [i]) (V:=((soV c.A a (I++ [i])).map Prod.fst)) (W:=((soV c.A a (I++ [i])).map λe=>e.2.src)) 8 9 ?_ ?_ ?_ ?_ ?_ ?_ ?_ ?_ ?_ ?_ ?_ ?_ ?_
  ·exact by decide
  ·exact Z3 3
  ·exact rfl
  ·exact ae.c6 (k:=3) rfl rfl (by decide) (λb w=>by rw[if_neg (by omega),if_neg (by omega)])
  ·exact .rw (by decide) rfl (by rw[q])
  ·exact .rw (by decide) rfl (by rw[q])
  ·exact rfl
  ·exact rfl
  ·exact rfl
  ·exact rfl
  ·exact congrArg (λs=>some (AO.iter 1 c.cl s)) y
  ·exact .inl ⟨_,rfl,by rw[q];exact cZ _⟩
  ·exact .inl ⟨_,rfl,by rw[q];exact cZ _⟩
 have hd:∀e∈c.A,e.2.dst=e.1:=λe E=>u.dst e (by rw[<-u.A];exact E)
 obtain⟨p1,p2⟩:=O.sQ u.o.nd u.o.len ho;have pp:(soV c.A a I).Perm (c.A.filter λe=>a e.2):=p1.filter _;have eN:=iv (pp.map Prod.fst);have eS:=iv (pp.map λe=>e.2.src);have lV:((soV c.A a I).map Prod.fst).length<=1000000:=by rw[q0g];omega
 have lW:((soV c.A a I).map λe=>e.2.src).length<=1000000:=by rw[q0g];omega
 obtain⟨N,Q⟩:∃N,N=aK ((soV c.A a I).map Prod.fst):=⟨_,rfl⟩;obtain⟨S,hS⟩:∃S,S=aK ((soV c.A a I).map λe=>e.2.src):=⟨_,rfl⟩;have lN:N.length<=1000:=by rw[Q];have:=cw ((soV c.A a I).map Prod.fst);rw[q0g]at this;omega
 have lS:S.length<=1000:=by rw[hS];have:=cw ((soV c.A a I).map λe=>e.2.src);rw[q0g]at this;omega
 have gN:∀d∈N,∃r,aD c.A d=some r:=λd hd=>by
  rw[Q,(ba _).2,q0p]at hd;obtain⟨e,E,rfl⟩:=hd;exact⟨e.2,cV u.o.key (BE (q1d.1 E).1)⟩
 have fin:S.flatMap (pkS N c.A)=pkF c.A a:=by rw[Q,hS,eN,eS];rfl
 have vN:AV.fr N.length 1 (strs N)= .fr (aK ((soV c.A a I).map Prod.fst)).length 1 (strs (aK ((soV c.A a I).map Prod.fst))):=by rw[Q]
 have vS:AV.fr S.length 1 (strs S)= .fr (aK ((soV c.A a I).map λe=>e.2.src)).length 1 (strs (aK ((soV c.A a I).map λe=>e.2.src))):=by rw[hS]
 clear eN eS pp
 conv=>whnf
 refine⟨_,.fr N.length 1 (strs N),_,.cons (.row (l:=strs ((soV c.A a I).map Prod.fst)) (z:=true) rfl (bX _) (by rw[aV,q0r]) rfl) .nil,⟨_,rfl,lV,vN⟩,?_⟩
 conv=>whnf
 refine⟨_,.fr S.length 1 (strs S),_,.cons (.row (l:=strs ((soV c.A a I).map λe=>e.2.src)) (z:=true) rfl (bX _) (by rw[aV,q0r]) rfl) .nil,⟨_,rfl,lW,vS⟩,?_⟩;have lP:∀(M:List Tx) (s:Tx),(pkS M c.A s).length<=M.length:=λM s=>by unfold pkS;rw[q0g];exact kG _
 have lL:∀i,((S.take i).flatMap (pkS N c.A)).length<=1000000:=λi=>by
  have h1:=sR (L:=S.take i) (f:=pkS N c.A) (b:=1000) λs _=>q0d (lP N s) lN
  have h2:(S.take i).length<=1000:=q0d (by rw[q0l];exact Nat.min_le_right _ _) lS;omega
 conv=>whnf
 refine aN.mk {i:Nat//i<=S.length} 9 (λi=>U7 k c N S ((S.take i.val).flatMap (pkS N c.A)) i.val) (λi=>S.length-i.val) ⟨0,Z9 _⟩ ?_ ?_
 focus
  exact Eg (c:=c) (N:=N) (S:=S) (L:=(S.take 0).flatMap (pkS N c.A)) (i:=0) 10 (by decide) (Z3 3) rfl rfl (.iD rfl) rfl rfl rfl rfl rfl rfl (.inr ⟨rfl,by decide⟩)
 intro⟨i,Z⟩;have Z:i<=S.length:=Z;have hw:IntKind.i64.wrap ((i:Int)+1)=((i+1:Nat):Int):=by rw[aj (by omega) (by omega)];omega
 have lLi:=lL i
 conv=>whnf
 refine ag.dec (λh=>?_) (λh=>?_)
 focus
  have T:i<S.length:=q0v.1 h;have e3:(S.take (i+1)).flatMap (pkS N c.A)=(S.take i).flatMap (pkS N c.A)++pkS N c.A S[i]:=by rw[q0c T,List.flatMap_append];simp
  conv=>whnf
  refine Idx.mk i rfl T ?_
  conv=>whnf
  refine aq (cL T (q0r _)) ?_
  conv=>whnf
  refine aN.mk {j:Nat//j<=N.length} 9 (λj=>U8 k c N S ((S.take i).flatMap (pkS N c.A)++pkS (N.take j.val) c.A S[i]) S[i] i j.val) (λj=>N.length-j.val) ⟨0,Z9 _⟩ ?_ ?_
  focus
   exact x4 (c:=c) (N:=N) (S:=S) (L:=(S.take i).flatMap (pkS N c.A)++pkS (N.take 0) c.A S[i]) (s:=S[i]) (i:=i) (j:=0) 8 (by decide) (Z3 3) rfl rfl (.rw (by decide) rfl (by rw[Z6];rfl)) rfl rfl rfl rfl rfl rfl rfl rfl rfl rfl (.inl ⟨_,rfl,by rw[dC];exact congrArg ruL (q1e _).symm⟩)
  intro⟨j,hj⟩;have hj:j<=N.length:=hj;have H:IntKind.i64.wrap ((j:Int)+1)=((j+1:Nat):Int):=by rw[aj (by omega) (by omega)];omega
  obtain⟨L,J⟩:∃L,L=(S.take i).flatMap (pkS N c.A)++pkS (N.take j) c.A S[i]:=⟨_,rfl⟩
  have bL:L.length<=1001000:=by
   have h1:=lP (N.take j) S[i];rw[q0l]at h1;rw[J,Z6];omega
  rw[<-J]
  conv=>whnf
  refine ag.dec (λh=>?_) (λh=>?_)
  focus
   have F:j<N.length:=q0v.1 h;obtain⟨r,hr⟩:=gN N[j] (q0k F);have er:rul c.A N[j]=r:=by unfold rul;rw[hr];rfl
   have U:=xY (R:=c.A) (s:=S[i]) F;rw[er]at U;have K:N.length-(j+1)<N.length-j:=by omega
   have y1:db r.src S[i]=true->L++ [r]=(S.take i).flatMap (pkS N c.A)++pkS (N.take (j+1)) c.A S[i]:=λq=>by rw[U,if_pos (a8.1 q),J,q1a]
   have y0:db r.src S[i]=false->L=(S.take i).flatMap (pkS N c.A)++pkS (N.take (j+1)) c.A S[i]:=λq=>by
    have:r.src≠S[i]:=λe=>by rw[a8.2 e]at q;cases q
    rw[U,if_neg this,q1e,J]
   have hsL:bl (ruL L) 0 (L.length*5)=some (ruL L):=bj (jq L);have hbL:(L.length+1)*56<=140737488355328:=by omega
   clear U
   conv=>whnf
   refine Idx.mk j rfl F ?_
   conv=>whnf
   refine aq (cL F (q0r _)) ?_
   conv=>whnf
   refine Ask.mk _ (bb (m:=c) (g:=gR) (k:=N[j]) bP mkR rfl rfl rfl lB hr) ?_
   conv=>whnf
   refine ag.sb (λz=>?_) (λz=>?_)
   focus
    have q:=y1 z
    conv=>whnf
    refine Ask.mk _ (bb (m:=c) (g:=gR) (k:=N[j]) bP mkR rfl rfl rfl lB hr) ?_
    conv=>whnf
    refine bF.grow 5 56 _ _ _ _ _ _ U2 (.old rfl) rfl rfl (.rw rfl hsL) hbL ?_
    conv=>whnf
    exact⟨⟨j+1,F⟩,K,x4 (c:=c) (N:=N) (S:=S) (L:=(S.take i).flatMap (pkS N c.A)++pkS (N.take (j+1)) c.A S[i]) (s:=S[i]) (i:=i) (j:=j+1) 10 (by decide) (Z3 3) rfl rfl (.rw (by decide) rfl (by rw[<-q,Z6];rfl)) rfl rfl rfl rfl rfl rfl (congrArg (AV.si .i64) H) rfl rfl rfl (.inl ⟨_,rfl,by rw[<-q];exact xW L r⟩)⟩
   have q:=y0 z
   conv=>whnf
   exact⟨⟨j+1,F⟩,K,x4 (c:=c) (N:=N) (S:=S) (L:=(S.take i).flatMap (pkS N c.A)++pkS (N.take (j+1)) c.A S[i]) (s:=S[i]) (i:=i) (j:=j+1) 8 (by decide) (Z3 3) rfl rfl (.rw (by decide) rfl (by rw[<-q])) rfl rfl rfl rfl rfl rfl (congrArg (AV.si .i64) H) rfl rfl rfl (.inl ⟨_,rfl,by rw[<-q];exact dC L⟩)⟩
  have ej:j=N.length:=by have h:¬(j:Int)<(N.length:Int):=h;omega
  have eL:L=(S.take (i+1)).flatMap (pkS N c.A):=by rw[J,ej,q0u,e3]
  conv=>whnf
  exact⟨⟨i+1,T⟩,by show S.length-(i+1)<S.length-i;omega,Eg (c:=c) (N:=N) (S:=S) (L:=(S.take (i+1)).flatMap (pkS N c.A)) (i:=i+1) 8 (by decide) (Z3 3) rfl rfl (.rw (by decide) rfl (by rw[eL])) rfl rfl (congrArg (AV.si .i64) hw) rfl rfl rfl (.inl ⟨_,rfl,by rw[eL];exact dC _⟩)⟩
 have ei:i=S.length:=by have h:¬(i:Int)<(S.length:Int):=h;omega
 have eF:(S.take i).flatMap (pkS N c.A)=pkF c.A a:=by rw[ei,q0u,fin]
 conv=>whnf
 exact⟨_,c,Re.UX rfl (congrArg List.length eF) rfl (iW _) (jq _) (by rw[eF]),u,mW rfl rfl⟩
def lC(A:Gr)(L:List Rl):Gr:=L.foldl (λA r=>dq A r.dst) A
theorem Gp{A:Gr}{L:List Rl}{i:Nat}(h:i<L.length):lC A (L.take (i+1))=dq (lC A (L.take i)) L[i].dst:=by
 unfold lC;rw[q0c h,q3b];rfl
theorem sS{K V:Type} [DecidableEq K]{A:List (K×V)}{k:K}{e:K×V}(h:e∈dq A k):e∈A:=by
 unfold dq at h;split at h
 ·exact h
 ·exact List.mem_of_mem_eraseIdx h
theorem tX:∀{L:List Rl} {A:Gr} {e:Tx×Rl},e∈lC A L->e∈A
 | [],_,_,h=>h
 |r::L,A,e,h=>sS (tX (L:=L) (A:=dq A r.dst) h)
def KGo:FuncId->EP:=aX 69 [] KPk
theorem U9:aS KGo:=au x0 (by kernel_rfl) (by kernel_rfl)
def Gq (k:Tx) (c:GrC) (I:List Nat) (V:List Tx) (W:List Tx):AE×AH:=(mkE [(0,.ptr 0 (0)),(1,AV.fn 128 [] [.ptr 2 0]),(5,.rw 8 0 V.length 1 0),(6,.rw 9 0 W.length 1 0),(20,.ptr 3 (0))],mkH [(0,.cells [.map 1] true),(1,c.O kT gR),(2,.cells [.ss k] true),(3,AO.iter 1 c.cl (di c.bs I)),(8,.cells (strs (V)) true),(9,.cells (strs (W)) true)])
theorem cN{k:Tx}{c:GrC}{I:List Nat}{V:List Tx}{W:List Tx}{p n:Nat}{σ:AE}{H:AH}(a:Nat)(d:Nat)(A:a≠0/\a≠1/\a≠2/\a≠3/\a≠d/\d≠0/\d≠1/\d≠2/\d≠3)(B:p<=3)(e0:ai (pa 0) σ= .ptr 0 (0))(m:ae H 10 (λb=>if b=8 then a else if b=9 then d else b) (ai (pa 1) σ) (AV.fn 128 [] [.ptr 2 0]))(o:ae H 10 (λb=>if b=8 then a else if b=9 then d else b) (ai (pa 5) σ) (.rw 8 0 V.length 1 0))(r:ae H 10 (λb=>if b=8 then a else if b=9 then d else b) (ai (pa 6) σ) (.rw 9 0 W.length 1 0))(f:ai (pa 20) σ= .ptr 3 (0))(s:H.get 0=some (.cells [.map 1] true))(t:H.get 1=some (c.O kT gR))(u:H.get 2=some (.cells [.ss k] true))(v:H.get 3=some (AO.iter 1 c.cl (di c.bs I)))(w:(∃l,H.get a=some (.cells l true)/\l.map mk=strs (V))∨((V)=[]/\n<=a))(z:(∃l,H.get d=some (.cells l true)/\l.map mk=strs (W))∨((W)=[]/\n<=d)):Cov p σ H n ((Gq k c I V W).1,(Gq k c I V W).2,10):=
 Cov.ofB (λb=>if b=8 then a else if b=9 then d else b) (by omega) (λb e=>by repeat' rw[if_neg (by omega)]) ⟨.ptr (by decide) e0,m,o,r,.ptr (by decide) f,trivial⟩ ⟨.inl ⟨_,s,ak.bz (k:=2) rfl (by decide) (λb e=>by rw[if_neg (by omega),if_neg (by omega)])⟩,.inl ⟨_,t,ak.bz (k:=0) (aC bK iX) (by decide) (λb e=>absurd e (q0o b))⟩,.inl ⟨_,u,ak.bz (k:=0) rfl (by decide) (λb e=>absurd e (q0o b))⟩,.inl ⟨_,v,ak.xU (by decide) rfl⟩,w.elim (λ⟨l,h,g⟩=> .inl ⟨_,h,ak.bu (bX _) (by rw[g,cZ]) (λq=>q)⟩) (λh=> .inr ⟨by rw[h.1];rfl,h.2⟩),z.elim (λ⟨l,h,g⟩=> .inl ⟨_,h,ak.bu (bX _) (by rw[g,cZ]) (λq=>q)⟩) (λh=> .inr ⟨by rw[h.1];rfl,h.2⟩),trivial⟩ rfl (λx i y j=>by simp only[Z5,Z4,or_false]at i j;rcases i with rfl|rfl|rfl|rfl|rfl|rfl<;>rcases j with rfl|rfl|rfl|rfl|rfl|rfl<;>simp<;>omega)
def Gs (k:Tx) (c:GrC) (N:List Tx) (S:List Tx) (L:List Rl) (i:Nat):AE×AH:=(mkE [(0,.ptr 0 (0)),(5,.fr N.length 1 (strs N)),(9,AV.rw 8 0 L.length 5 0),(41,.fr S.length 1 (strs S)),(42,.si .i64 ((S.length:Int))),(43,.si .i64 ((i:Int)))],mkH [(0,.cells [.map 1] true),(1,c.O kT gR),(2,.cells [.ss k] true),(8,.cells (ruL (L)) true)])
theorem x5{k:Tx}{c:GrC}{N:List Tx}{S:List Tx}{L:List Rl}{i:Nat}{p n:Nat}{σ:AE}{H:AH}(a:Nat)(z:a≠0/\a≠1/\a≠2)(A:p<=3)(e0:ai (pa 0) σ= .ptr 0 (0))(r:ai (pa 5) σ= .fr N.length 1 (strs N))(s:ae H 9 (λb=>if b=8 then a else b) (ai (pa 9) σ) (AV.rw 8 0 L.length 5 0))(e:ai (pa 41) σ= .fr S.length 1 (strs S))(f:mk (ai (pa 42) σ)= .si .i64 ((S.length:Int)))(j:mk (ai (pa 43) σ)= .si .i64 ((i:Int)))(t:H.get 0=some (.cells [.map 1] true))(u:H.get 1=some (c.O kT gR))(v:H.get 2=some (.cells [.ss k] true))(w:(∃l,H.get a=some (.cells l true)/\l.map mk=ruL (L))∨((L)=[]/\n<=a)):Cov p σ H n ((Gs k c N S L i).1,(Gs k c N S L i).2,9):=
 Cov.ofB (λb=>if b=8 then a else b) (by omega) (λb d=>by repeat' rw[if_neg (by omega)]) ⟨.ptr (by decide) e0,ae.frE r,s,ae.frE e,.int f,.int j,trivial⟩ ⟨.inl ⟨_,t,ak.bz (k:=2) rfl (by decide) (λb d=>by rw[if_neg (by omega)])⟩,.inl ⟨_,u,ak.bz (k:=0) (aC bK iX) (by decide) (λb d=>absurd d (q0o b))⟩,.inl ⟨_,v,ak.bz (k:=0) rfl (by decide) (λb d=>absurd d (q0o b))⟩,w.elim (λ⟨l,h,g⟩=> .inl ⟨_,h,ak.bu (iW _) (by rw[g,dC]) (λq=>q)⟩) (λh=> .inr ⟨by rw[h.1];rfl,h.2⟩),trivial⟩ rfl (λx m y o=>by simp only[Z5,Z4,or_false]at m o;rcases m with rfl|rfl|rfl|rfl<;>rcases o with rfl|rfl|rfl|rfl<;>simp<;>omega)
def Gu (k:Tx) (c:GrC) (N:List Tx) (S:List Tx) (L:List Rl) (s:Tx) (i:Nat) (j:Nat):AE×AH:=(mkE [(0,.ptr 0 (0)),(5,.fr N.length 1 (strs N)),(9,AV.rw 8 0 L.length 5 0),(11,.ss (s)),(41,.fr S.length 1 (strs S)),(42,.si .i64 ((S.length:Int))),(43,.si .i64 ((i:Int))),(47,.fr N.length 1 (strs N)),(48,.si .i64 ((N.length:Int))),(49,.si .i64 ((j:Int)))],mkH [(0,.cells [.map 1] true),(1,c.O kT gR),(2,.cells [.ss k] true),(8,.cells (ruL (L)) true)])
theorem rp{k:Tx}{c:GrC}{N:List Tx}{S:List Tx}{L:List Rl}{s:Tx}{i:Nat}{j:Nat}{p n:Nat}{σ:AE}{H:AH}(a:Nat)(F:a≠0/\a≠1/\a≠2)(G:p<=3)(e0:ai (pa 0) σ= .ptr 0 (0))(z:ai (pa 5) σ= .fr N.length 1 (strs N))(A:ae H 9 (λb=>if b=8 then a else b) (ai (pa 9) σ) (AV.rw 8 0 L.length 5 0))(e:mk (ai (pa 11) σ)= .ss (s))(f:ai (pa 41) σ= .fr S.length 1 (strs S))(m:mk (ai (pa 42) σ)= .si .i64 ((S.length:Int)))(o:mk (ai (pa 43) σ)= .si .i64 ((i:Int)))(r:ai (pa 47) σ= .fr N.length 1 (strs N))(t:mk (ai (pa 48) σ)= .si .i64 ((N.length:Int)))(u:mk (ai (pa 49) σ)= .si .i64 ((j:Int)))(B:H.get 0=some (.cells [.map 1] true))(C:H.get 1=some (c.O kT gR))(D:H.get 2=some (.cells [.ss k] true))(E:(∃l,H.get a=some (.cells l true)/\l.map mk=ruL (L))∨((L)=[]/\n<=a)):Cov p σ H n ((Gu k c N S L s i j).1,(Gu k c N S L s i j).2,9):=
 Cov.ofB (λb=>if b=8 then a else b) (by omega) (λb d=>by repeat' rw[if_neg (by omega)]) ⟨.ptr (by decide) e0,ae.frE z,A,.str e,ae.frE f,.int m,.int o,ae.frE r,.int t,.int u,trivial⟩ ⟨.inl ⟨_,B,ak.bz (k:=2) rfl (by decide) (λb d=>by rw[if_neg (by omega)])⟩,.inl ⟨_,C,ak.bz (k:=0) (aC bK iX) (by decide) (λb d=>absurd d (q0o b))⟩,.inl ⟨_,D,ak.bz (k:=0) rfl (by decide) (λb d=>absurd d (q0o b))⟩,E.elim (λ⟨l,h,g⟩=> .inl ⟨_,h,ak.bu (iW _) (by rw[g,dC]) (λq=>q)⟩) (λh=> .inr ⟨by rw[h.1];rfl,h.2⟩),trivial⟩ rfl (λx v y w=>by simp only[Z5,Z4,or_false]at v w;rcases v with rfl|rfl|rfl|rfl<;>rcases w with rfl|rfl|rfl|rfl<;>simp<;>omega)
def grG (k:Tx) (c:GrC) (L:List Rl) (i:Nat):AE×AH:=(mkE [(0,.ptr 0 (0)),(5,.rw 8 0 L.length 5 0),(11,.rw 8 0 L.length 5 0),(12,.si .i64 ((L.length:Int))),(13,.si .i64 ((i:Int)))],mkH [(0,.cells [.map 1] true),(1,c.O kT gR),(2,.cells [.ss k] true),(8,.cells (ruL (L)) true)])
theorem II{k:Tx}{c:GrC}{L:List Rl}{i:Nat}{p n:Nat}{σ:AE}{H:AH}(a:Nat)(w:a≠0/\a≠1/\a≠2)(z:p<=3)(e0:ai (pa 0) σ= .ptr 0 (0))(r:ae H 9 (λb=>if b=8 then a else b) (ai (pa 5) σ) (.rw 8 0 L.length 5 0))(e:ae H 9 (λb=>if b=8 then a else b) (ai (pa 11) σ) (.rw 8 0 L.length 5 0))(f:mk (ai (pa 12) σ)= .si .i64 ((L.length:Int)))(j:mk (ai (pa 13) σ)= .si .i64 ((i:Int)))(s:H.get 0=some (.cells [.map 1] true))(t:H.get 1=some (c.O kT gR))(u:H.get 2=some (.cells [.ss k] true))(v:(∃l,H.get a=some (.cells l true)/\l.map mk=ruL (L))∨((L)=[]/\n<=a)):Cov p σ H n ((grG k c L i).1,(grG k c L i).2,9):=
 Cov.ofB (λb=>if b=8 then a else b) (by omega) (λb d=>by repeat' rw[if_neg (by omega)]) ⟨.ptr (by decide) e0,r,e,.int f,.int j,trivial⟩ ⟨.inl ⟨_,s,ak.bz (k:=2) rfl (by decide) (λb d=>by rw[if_neg (by omega)])⟩,.inl ⟨_,t,ak.bz (k:=0) (aC bK iX) (by decide) (λb d=>absurd d (q0o b))⟩,.inl ⟨_,u,ak.bz (k:=0) rfl (by decide) (λb d=>absurd d (q0o b))⟩,v.elim (λ⟨l,h,g⟩=> .inl ⟨_,h,ak.bu (iW _) (by rw[g,dC]) (λq=>q)⟩) (λh=> .inr ⟨by rw[h.1];rfl,h.2⟩),trivial⟩ rfl (λx m y o=>by simp only[Z5,Z4,or_false]at m o;rcases m with rfl|rfl|rfl|rfl<;>rcases o with rfl|rfl|rfl|rfl<;>simp<;>omega)
theorem Gv(x:Gr)(k:Tx)(c:GrC)(B:yD x c)(h1000:c.A.length<=1000):ax KGo 5 69 [.ptr 0 0,.ss k] (mkH (bE (grO c) 0)) 2 (gm GrB (lC c.A (pkF c.A (λr=>decide (r.src=k)||decide (r.dst=k)))) (.si .i64 (pkF c.A (λr=>decide (r.src=k)||decide (r.dst=k))).length)):=by
 obtain⟨a,F⟩:∃a:Rl->Bool,a=λr=>decide (r.src=k)||decide (r.dst=k):=⟨_,rfl⟩
 rw[<-F]
 conv=>whnf
 refine aN.mk {I:List Nat//RgI c I} 10 (λI=>Gq k c I.val ((soV c.A a I.val).map Prod.fst) ((soV c.A a I.val).map λe=>e.2.src)) (λI=>c.A.length-I.val.length) ⟨[],.nil⟩ ?_ ?_
 focus
  exact cN (c:=c) (I:=[]) (V:=((soV c.A a []).map Prod.fst)) (W:=((soV c.A a []).map λe=>e.2.src)) 8 9 (by decide) (Z3 3) rfl (ae.c6 (k:=3) rfl rfl (by decide) (λb w=>by rw[if_neg (by omega),if_neg (by omega)])) (.iD rfl) (.iD rfl) rfl rfl rfl rfl rfl (.inr ⟨rfl,by decide⟩) (.inr ⟨rfl,by decide⟩)
 intro⟨I,X⟩;have hIl:=X.len;have hle:(soV c.A a I).length<=I.length:=q0d (kG _) (Nat.le_of_eq (vn X));have p:(((soV c.A a I).map Prod.fst).length+1)*16<=140737488355328:=by rw[q0g];omega
 have u:(((soV c.A a I).map λe=>e.2.src).length+1)*16<=140737488355328:=by rw[q0g];omega
 have C:bl (strs ((soV c.A a I).map Prod.fst)) 0 (((soV c.A a I).map Prod.fst).length*1)=some (strs ((soV c.A a I).map Prod.fst)):=bj (by rw[aV,q0r]);have D:bl (strs ((soV c.A a I).map λe=>e.2.src)) 0 (((soV c.A a I).map λe=>e.2.src).length*1)=some (strs ((soV c.A a I).map λe=>e.2.src)):=bj (by rw[aV,q0r])
 conv=>whnf
 refine Nxt.mp 3 1 c.cl _ _ _ rfl rfl rfl rfl B.o.lt (λho=>?_) (λi e x E hx hn=>?_)
 rotate_left
 focus
  obtain⟨P,rfl⟩:=p5 E;obtain⟨n,hi⟩:=X.step P hx hn;have y:di c.bs I++ [x]=di c.bs (I++ [i]):=(kO hx).symm;have v:c.A.length-(I++ [i]).length<c.A.length-I.length:=by have:=n.len;simp only[Z6,q2b]at this⊢;omega
  have hnd:=B.o.nd;have Y:=xZ (so:=a) (I:=I) P
  have yes:a c.A[i].2=true->((strs ((soV c.A a I).map Prod.fst)++ [AV.ss c.A[i].1]).map mk=strs ((soV c.A a (I++ [i])).map Prod.fst)/\((soV c.A a I).map Prod.fst).length+1=((soV c.A a (I++ [i])).map Prod.fst).length)/\(strs ((soV c.A a I).map λe=>e.2.src)++ [AV.ss c.A[i].2.src]).map mk=strs ((soV c.A a (I++ [i])).map λe=>e.2.src)/\((soV c.A a I).map λe=>e.2.src).length+1=((soV c.A a (I++ [i])).map λe=>e.2.src).length:=λq=>by
   have eV:(soV c.A a (I++ [i])).map Prod.fst=(soV c.A a I).map Prod.fst++ [c.A[i].1]:=by rw[Y,if_pos q,q0x];rfl
   have eW:(soV c.A a (I++ [i])).map (λe=>e.2.src)=(soV c.A a I).map (λe=>e.2.src)++ [c.A[i].2.src]:=by rw[Y,if_pos q,q0x];rfl
   rw[eV,eW];exact⟨⟨dJ _ _,by rw[Z6];rfl⟩,dJ _ _,by rw[Z6];rfl⟩
  have no:a c.A[i].2=false->soV c.A a (I++ [i])=soV c.A a I:=λq=>by
   rw[Y,q];simp
  clear Y
  conv=>whnf
  refine Ent.mp 3 1 c.cl i x (di c.bs I) (iV kT gR c.A) c.bs _ rfl rfl rfl hnd hx E ?_
  conv=>whnf
  refine ag.sb (λz=>?_) (λz=>?_)
  focus
   have q:=yes (by rw[F];show(decide _||decide _)=true;rw[decide_eq_true (a8.1 z)];rfl)
   conv=>whnf
   refine⟨?_,?_,?_,?_,?_,?_,trivial⟩
   focus
    conv=>whnf
    refine bF.grow 1 16 _ _ _ _ _ _ tyT (.old rfl) rfl rfl (.rw rfl C) p ?_
    conv=>whnf
    refine bF.grow 1 16 _ _ _ _ _ _ tyT (.old rfl) rfl rfl (.rw rfl D) u ?_
    conv=>whnf
    refine⟨⟨I++ [i],n⟩,v,?_⟩;refine cN (c:=c) (I:=I++ [i]) (V:=((soV c.A a (I++ [i])).map Prod.fst)) (W:=((soV c.A a (I++ [i])).map λe=>e.2.src)) 13 15 ?_ ?_ ?_ ?_ ?_ ?_ ?_ ?_ ?_ ?_ ?_ ?_ ?_
    ·exact by decide
    ·exact Z3 3
    ·exact rfl
    ·exact ae.c6 (k:=3) rfl rfl (by decide) (λb w=>by rw[if_neg (by omega),if_neg (by omega)])
    ·exact .rw (by decide) rfl q.1.2
    ·exact .rw (by decide) rfl q.2.2
    ·exact rfl
    ·exact rfl
    ·exact rfl
    ·exact rfl
    ·exact congrArg (λs=>some (AO.iter 1 c.cl s)) y
    ·exact .inl ⟨_,rfl,q.1.1⟩
    ·exact .inl ⟨_,rfl,q.2.1⟩
   focus
    conv=>whnf
    refine bF.grow 1 16 _ _ _ _ _ _ tyT (.old rfl) rfl rfl (.rw rfl C) p ?_
    conv=>whnf
    refine bF.grow 1 16 _ _ _ _ _ _ tyT (.old rfl) rfl rfl (.rw rfl D) u ?_
    conv=>whnf
    refine⟨⟨I++ [i],n⟩,v,?_⟩;refine cN (c:=c) (I:=I++ [i]) (V:=((soV c.A a (I++ [i])).map Prod.fst)) (W:=((soV c.A a (I++ [i])).map λe=>e.2.src)) 13 15 ?_ ?_ ?_ ?_ ?_ ?_ ?_ ?_ ?_ ?_ ?_ ?_ ?_
    ·exact by decide
    ·exact Z3 3
    ·exact rfl
    ·exact ae.c6 (k:=3) rfl rfl (by decide) (λb w=>by rw[if_neg (by omega),if_neg (by omega)])
    ·exact .rw (by decide) rfl q.1.2
    ·exact .rw (by decide) rfl q.2.2
    ·exact rfl
    ·exact rfl
    ·exact rfl
    ·exact rfl
    ·exact congrArg (λs=>some (AO.iter 1 c.cl s)) y
    ·exact .inl ⟨_,rfl,q.1.1⟩
    ·exact .inl ⟨_,rfl,q.2.1⟩
   focus
    conv=>whnf
    refine bF.grow 1 16 _ _ _ _ _ _ tyT (.old rfl) rfl rfl (.rw rfl C) p ?_
    conv=>whnf
    refine bF.grow 1 16 _ _ _ _ _ _ tyT (.old rfl) rfl rfl (.rw rfl D) u ?_
    conv=>whnf
    refine⟨⟨I++ [i],n⟩,v,?_⟩;refine cN (c:=c) (I:=I++ [i]) (V:=((soV c.A a (I++ [i])).map Prod.fst)) (W:=((soV c.A a (I++ [i])).map λe=>e.2.src)) 14 15 ?_ ?_ ?_ ?_ ?_ ?_ ?_ ?_ ?_ ?_ ?_ ?_ ?_
    ·exact by decide
    ·exact Z3 3
    ·exact rfl
    ·exact ae.c6 (k:=3) rfl rfl (by decide) (λb w=>by rw[if_neg (by omega),if_neg (by omega)])
    ·exact .rw (by decide) rfl q.1.2
    ·exact .rw (by decide) rfl q.2.2
    ·exact rfl
    ·exact rfl
    ·exact rfl
    ·exact rfl
    ·exact congrArg (λs=>some (AO.iter 1 c.cl s)) y
    ·exact .inl ⟨_,rfl,q.1.1⟩
    ·exact .inl ⟨_,rfl,q.2.1⟩
   focus
    conv=>whnf
    refine bF.grow 1 16 _ _ _ _ _ _ tyT (.old rfl) rfl rfl (.rw rfl C) p ?_
    conv=>whnf
    refine bF.grow 1 16 _ _ _ _ _ _ tyT (.old rfl) rfl rfl (.rw rfl D) u ?_
    conv=>whnf
    refine⟨⟨I++ [i],n⟩,v,?_⟩;refine cN (c:=c) (I:=I++ [i]) (V:=((soV c.A a (I++ [i])).map Prod.fst)) (W:=((soV c.A a (I++ [i])).map λe=>e.2.src)) 13 15 ?_ ?_ ?_ ?_ ?_ ?_ ?_ ?_ ?_ ?_ ?_ ?_ ?_
    ·exact by decide
    ·exact Z3 3
    ·exact rfl
    ·exact ae.c6 (k:=3) rfl rfl (by decide) (λb w=>by rw[if_neg (by omega),if_neg (by omega)])
    ·exact .rw (by decide) rfl q.1.2
    ·exact .rw (by decide) rfl q.2.2
    ·exact rfl
    ·exact rfl
    ·exact rfl
    ·exact rfl
    ·exact congrArg (λs=>some (AO.iter 1 c.cl s)) y
    ·exact .inl ⟨_,rfl,q.1.1⟩
    ·exact .inl ⟨_,rfl,q.2.1⟩
   focus
    conv=>whnf
    refine bF.grow 1 16 _ _ _ _ _ _ tyT (.old rfl) rfl rfl (.rw rfl C) p ?_
    conv=>whnf
    refine bF.grow 1 16 _ _ _ _ _ _ tyT (.old rfl) rfl rfl (.rw rfl D) u ?_
    conv=>whnf
    refine⟨⟨I++ [i],n⟩,v,?_⟩;refine cN (c:=c) (I:=I++ [i]) (V:=((soV c.A a (I++ [i])).map Prod.fst)) (W:=((soV c.A a (I++ [i])).map λe=>e.2.src)) 14 15 ?_ ?_ ?_ ?_ ?_ ?_ ?_ ?_ ?_ ?_ ?_ ?_ ?_
    ·exact by decide
    ·exact Z3 3
    ·exact rfl
    ·exact ae.c6 (k:=3) rfl rfl (by decide) (λb w=>by rw[if_neg (by omega),if_neg (by omega)])
    ·exact .rw (by decide) rfl q.1.2
    ·exact .rw (by decide) rfl q.2.2
    ·exact rfl
    ·exact rfl
    ·exact rfl
    ·exact rfl
    ·exact congrArg (λs=>some (AO.iter 1 c.cl s)) y
    ·exact .inl ⟨_,rfl,q.1.1⟩
    ·exact .inl ⟨_,rfl,q.2.1⟩
   focus
    conv=>whnf
    refine bF.grow 1 16 _ _ _ _ _ _ tyT (.old rfl) rfl rfl (.rw rfl C) p ?_
    conv=>whnf
    refine bF.grow 1 16 _ _ _ _ _ _ tyT (.old rfl) rfl rfl (.rw rfl D) u ?_
    conv=>whnf
    refine⟨⟨I++ [i],n⟩,v,?_⟩;refine cN (c:=c) (I:=I++ [i]) (V:=((soV c.A a (I++ [i])).map Prod.fst)) (W:=((soV c.A a (I++ [i])).map λe=>e.2.src)) 14 15 ?_ ?_ ?_ ?_ ?_ ?_ ?_ ?_ ?_ ?_ ?_ ?_ ?_
    ·exact by decide
    ·exact Z3 3
    ·exact rfl
    ·exact ae.c6 (k:=3) rfl rfl (by decide) (λb w=>by rw[if_neg (by omega),if_neg (by omega)])
    ·exact .rw (by decide) rfl q.1.2
    ·exact .rw (by decide) rfl q.2.2
    ·exact rfl
    ·exact rfl
    ·exact rfl
    ·exact rfl
    ·exact congrArg (λs=>some (AO.iter 1 c.cl s)) y
    ·exact .inl ⟨_,rfl,q.1.1⟩
    ·exact .inl ⟨_,rfl,q.2.1⟩
  conv=>whnf
  refine ag.sb (λz2=>?_) (λz2=>?_)
  focus
   have q:=yes (by rw[F];show(decide _||decide _)=true;rw[decide_eq_true (a8.1 z2)];simp)
   conv=>whnf
   refine⟨?_,?_,?_,?_,?_,?_,trivial⟩
   focus
    conv=>whnf
    refine bF.grow 1 16 _ _ _ _ _ _ tyT (.old rfl) rfl rfl (.rw rfl C) p ?_
    conv=>whnf
    refine bF.grow 1 16 _ _ _ _ _ _ tyT (.old rfl) rfl rfl (.rw rfl D) u ?_
    conv=>whnf
    refine⟨⟨I++ [i],n⟩,v,?_⟩;refine cN (c:=c) (I:=I++ [i]) (V:=((soV c.A a (I++ [i])).map Prod.fst)) (W:=((soV c.A a (I++ [i])).map λe=>e.2.src)) 13 15 ?_ ?_ ?_ ?_ ?_ ?_ ?_ ?_ ?_ ?_ ?_ ?_ ?_
    ·exact by decide
    ·exact Z3 3
    ·exact rfl
    ·exact ae.c6 (k:=3) rfl rfl (by decide) (λb w=>by rw[if_neg (by omega),if_neg (by omega)])
    ·exact .rw (by decide) rfl q.1.2
    ·exact .rw (by decide) rfl q.2.2
    ·exact rfl
    ·exact rfl
    ·exact rfl
    ·exact rfl
    ·exact congrArg (λs=>some (AO.iter 1 c.cl s)) y
    ·exact .inl ⟨_,rfl,q.1.1⟩
    ·exact .inl ⟨_,rfl,q.2.1⟩
   focus
    conv=>whnf
    refine bF.grow 1 16 _ _ _ _ _ _ tyT (.old rfl) rfl rfl (.rw rfl C) p ?_
    conv=>whnf
    refine bF.grow 1 16 _ _ _ _ _ _ tyT (.old rfl) rfl rfl (.rw rfl D) u ?_
    conv=>whnf
    refine⟨⟨I++ [i],n⟩,v,?_⟩;refine cN (c:=c) (I:=I++ [i]) (V:=((soV c.A a (I++ [i])).map Prod.fst)) (W:=((soV c.A a (I++ [i])).map λe=>e.2.src)) 13 15 ?_ ?_ ?_ ?_ ?_ ?_ ?_ ?_ ?_ ?_ ?_ ?_ ?_
    ·exact by decide
    ·exact Z3 3
    ·exact rfl
    ·exact ae.c6 (k:=3) rfl rfl (by decide) (λb w=>by rw[if_neg (by omega),if_neg (by omega)])
    ·exact .rw (by decide) rfl q.1.2
    ·exact .rw (by decide) rfl q.2.2
    ·exact rfl
    ·exact rfl
    ·exact rfl
    ·exact rfl
    ·exact congrArg (λs=>some (AO.iter 1 c.cl s)) y
    ·exact .inl ⟨_,rfl,q.1.1⟩
    ·exact .inl ⟨_,rfl,q.2.1⟩
   focus
    conv=>whnf
    refine bF.grow 1 16 _ _ _ _ _ _ tyT (.old rfl) rfl rfl (.rw rfl C) p ?_
    conv=>whnf
    refine bF.grow 1 16 _ _ _ _ _ _ tyT (.old rfl) rfl rfl (.rw rfl D) u ?_
    conv=>whnf
    refine⟨⟨I++ [i],n⟩,v,?_⟩;refine cN (c:=c) (I:=I++ [i]) (V:=((soV c.A a (I++ [i])).map Prod.fst)) (W:=((soV c.A a (I++ [i])).map λe=>e.2.src)) 14 15 ?_ ?_ ?_ ?_ ?_ ?_ ?_ ?_ ?_ ?_ ?_ ?_ ?_
    ·exact by decide
    ·exact Z3 3
    ·exact rfl
    ·exact ae.c6 (k:=3) rfl rfl (by decide) (λb w=>by rw[if_neg (by omega),if_neg (by omega)])
    ·exact .rw (by decide) rfl q.1.2
    ·exact .rw (by decide) rfl q.2.2
    ·exact rfl
    ·exact rfl
    ·exact rfl
    ·exact rfl
    ·exact congrArg (λs=>some (AO.iter 1 c.cl s)) y
    ·exact .inl ⟨_,rfl,q.1.1⟩
    ·exact .inl ⟨_,rfl,q.2.1⟩
   focus
    conv=>whnf
    refine bF.grow 1 16 _ _ _ _ _ _ tyT (.old rfl) rfl rfl (.rw rfl C) p ?_
    conv=>whnf
    refine bF.grow 1 16 _ _ _ _ _ _ tyT (.old rfl) rfl rfl (.rw rfl D) u ?_
    conv=>whnf
    refine⟨⟨I++ [i],n⟩,v,?_⟩;refine cN (c:=c) (I:=I++ [i]) (V:=((soV c.A a (I++ [i])).map Prod.fst)) (W:=((soV c.A a (I++ [i])).map λe=>e.2.src)) 13 15 ?_ ?_ ?_ ?_ ?_ ?_ ?_ ?_ ?_ ?_ ?_ ?_ ?_
    ·exact by decide
    ·exact Z3 3
    ·exact rfl
    ·exact ae.c6 (k:=3) rfl rfl (by decide) (λb w=>by rw[if_neg (by omega),if_neg (by omega)])
    ·exact .rw (by decide) rfl q.1.2
    ·exact .rw (by decide) rfl q.2.2
    ·exact rfl
    ·exact rfl
    ·exact rfl
    ·exact rfl
    ·exact congrArg (λs=>some (AO.iter 1 c.cl s)) y
    ·exact .inl ⟨_,rfl,q.1.1⟩
    ·exact .inl ⟨_,rfl,q.2.1⟩
   focus
    conv=>whnf
    refine bF.grow 1 16 _ _ _ _ _ _ tyT (.old rfl) rfl rfl (.rw rfl C) p ?_
    conv=>whnf
    refine bF.grow 1 16 _ _ _ _ _ _ tyT (.old rfl) rfl rfl (.rw rfl D) u ?_
    conv=>whnf
    refine⟨⟨I++ [i],n⟩,v,?_⟩;refine cN (c:=c) (I:=I++ [i]) (V:=((soV c.A a (I++ [i])).map Prod.fst)) (W:=((soV c.A a (I++ [i])).map λe=>e.2.src)) 14 15 ?_ ?_ ?_ ?_ ?_ ?_ ?_ ?_ ?_ ?_ ?_ ?_ ?_
    ·exact by decide
    ·exact Z3 3
    ·exact rfl
    ·exact ae.c6 (k:=3) rfl rfl (by decide) (λb w=>by rw[if_neg (by omega),if_neg (by omega)])
    ·exact .rw (by decide) rfl q.1.2
    ·exact .rw (by decide) rfl q.2.2
    ·exact rfl
    ·exact rfl
    ·exact rfl
    ·exact rfl
    ·exact congrArg (λs=>some (AO.iter 1 c.cl s)) y
    ·exact .inl ⟨_,rfl,q.1.1⟩
    ·exact .inl ⟨_,rfl,q.2.1⟩
   focus
    conv=>whnf
    refine bF.grow 1 16 _ _ _ _ _ _ tyT (.old rfl) rfl rfl (.rw rfl C) p ?_
    conv=>whnf
    refine bF.grow 1 16 _ _ _ _ _ _ tyT (.old rfl) rfl rfl (.rw rfl D) u ?_
    conv=>whnf
    refine⟨⟨I++ [i],n⟩,v,?_⟩;refine cN (c:=c) (I:=I++ [i]) (V:=((soV c.A a (I++ [i])).map Prod.fst)) (W:=((soV c.A a (I++ [i])).map λe=>e.2.src)) 14 15 ?_ ?_ ?_ ?_ ?_ ?_ ?_ ?_ ?_ ?_ ?_ ?_ ?_
    ·exact by decide
    ·exact Z3 3
    ·exact rfl
    ·exact ae.c6 (k:=3) rfl rfl (by decide) (λb w=>by rw[if_neg (by omega),if_neg (by omega)])
    ·exact .rw (by decide) rfl q.1.2
    ·exact .rw (by decide) rfl q.2.2
    ·exact rfl
    ·exact rfl
    ·exact rfl
    ·exact rfl
    ·exact congrArg (λs=>some (AO.iter 1 c.cl s)) y
    ·exact .inl ⟨_,rfl,q.1.1⟩
    ·exact .inl ⟨_,rfl,q.2.1⟩
  have q:=no (by rw[F];show(decide _||decide _)=false;rw[decide_eq_false (λe=>by rw[a8.2 e]at z;cases z),decide_eq_false (λe=>by rw[a8.2 e]at z2;cases z2)];rfl)
  conv=>whnf
  refine⟨⟨I++ [i],n⟩,v,?_⟩;refine cN (c:=c) (I:=I++ [i]) (V:=((soV c.A a (I++ [i])).map Prod.fst)) (W:=((soV c.A a (I++ [i])).map λe=>e.2.src)) 8 9 ?_ ?_ ?_ ?_ ?_ ?_ ?_ ?_ ?_ ?_ ?_ ?_ ?_
  ·exact by decide
  ·exact Z3 3
  ·exact rfl
  ·exact ae.c6 (k:=3) rfl rfl (by decide) (λb w=>by rw[if_neg (by omega),if_neg (by omega)])
  ·exact .rw (by decide) rfl (by rw[q])
  ·exact .rw (by decide) rfl (by rw[q])
  ·exact rfl
  ·exact rfl
  ·exact rfl
  ·exact rfl
  ·exact congrArg (λs=>some (AO.iter 1 c.cl s)) y
  ·exact .inl ⟨_,rfl,by rw[q];exact cZ _⟩
  ·exact .inl ⟨_,rfl,by rw[q];exact cZ _⟩
 have hd:∀e∈c.A,e.2.dst=e.1:=λe E=>B.dst e (by rw[<-B.A];exact E)
 obtain⟨p1,p2⟩:=X.sQ B.o.nd B.o.len ho;have pp:(soV c.A a I).Perm (c.A.filter λe=>a e.2):=p1.filter _;have eN:=iv (pp.map Prod.fst);have eS:=iv (pp.map λe=>e.2.src);have lV:((soV c.A a I).map Prod.fst).length<=1000000:=by rw[q0g];omega
 have lW:((soV c.A a I).map λe=>e.2.src).length<=1000000:=by rw[q0g];omega
 obtain⟨N,Z⟩:∃N,N=aK ((soV c.A a I).map Prod.fst):=⟨_,rfl⟩;obtain⟨S,hS⟩:∃S,S=aK ((soV c.A a I).map λe=>e.2.src):=⟨_,rfl⟩;have lN:N.length<=1000:=by rw[Z];have:=cw ((soV c.A a I).map Prod.fst);rw[q0g]at this;omega
 have lS:S.length<=1000:=by rw[hS];have:=cw ((soV c.A a I).map λe=>e.2.src);rw[q0g]at this;omega
 have gN:∀d∈N,∃r,aD c.A d=some r:=λd hd=>by
  rw[Z,(ba _).2,q0p]at hd;obtain⟨e,E,rfl⟩:=hd;exact⟨e.2,cV B.o.key (BE (q1d.1 E).1)⟩
 have fin:S.flatMap (pkS N c.A)=pkF c.A a:=by rw[Z,hS,eN,eS];rfl
 have vN:AV.fr N.length 1 (strs N)= .fr (aK ((soV c.A a I).map Prod.fst)).length 1 (strs (aK ((soV c.A a I).map Prod.fst))):=by rw[Z]
 have vS:AV.fr S.length 1 (strs S)= .fr (aK ((soV c.A a I).map λe=>e.2.src)).length 1 (strs (aK ((soV c.A a I).map λe=>e.2.src))):=by rw[hS]
 clear eN eS pp
 conv=>whnf
 refine⟨_,.fr N.length 1 (strs N),_,.cons (.row (l:=strs ((soV c.A a I).map Prod.fst)) (z:=true) rfl (bX _) (by rw[aV,q0r]) rfl) .nil,⟨_,rfl,lV,vN⟩,?_⟩
 conv=>whnf
 refine⟨_,.fr S.length 1 (strs S),_,.cons (.row (l:=strs ((soV c.A a I).map λe=>e.2.src)) (z:=true) rfl (bX _) (by rw[aV,q0r]) rfl) .nil,⟨_,rfl,lW,vS⟩,?_⟩;have lP:∀(M:List Tx) (s:Tx),(pkS M c.A s).length<=M.length:=λM s=>by unfold pkS;rw[q0g];exact kG _
 have lL:∀i,((S.take i).flatMap (pkS N c.A)).length<=1000000:=λi=>by
  have h1:=sR (L:=S.take i) (f:=pkS N c.A) (b:=1000) λs _=>q0d (lP N s) lN
  have h2:(S.take i).length<=1000:=q0d (by rw[q0l];exact Nat.min_le_right _ _) lS;omega
 conv=>whnf
 refine aN.mk {i:Nat//i<=S.length} 9 (λi=>Gs k c N S ((S.take i.val).flatMap (pkS N c.A)) i.val) (λi=>S.length-i.val) ⟨0,Z9 _⟩ ?_ ?_
 focus
  exact x5 (c:=c) (N:=N) (S:=S) (L:=(S.take 0).flatMap (pkS N c.A)) (i:=0) 10 (by decide) (Z3 3) rfl rfl (.iD rfl) rfl rfl rfl rfl rfl rfl (.inr ⟨rfl,by decide⟩)
 intro⟨i,hi⟩;have hi:i<=S.length:=hi;have hw:IntKind.i64.wrap ((i:Int)+1)=((i+1:Nat):Int):=by rw[aj (by omega) (by omega)];omega
 have lLi:=lL i
 conv=>whnf
 refine ag.dec (λh=>?_) (λh=>?_)
 focus
  have G:i<S.length:=q0v.1 h;have e3:(S.take (i+1)).flatMap (pkS N c.A)=(S.take i).flatMap (pkS N c.A)++pkS N c.A S[i]:=by rw[q0c G,List.flatMap_append];simp
  conv=>whnf
  refine Idx.mk i rfl G ?_
  conv=>whnf
  refine aq (cL G (q0r _)) ?_
  conv=>whnf
  refine aN.mk {j:Nat//j<=N.length} 9 (λj=>Gu k c N S ((S.take i).flatMap (pkS N c.A)++pkS (N.take j.val) c.A S[i]) S[i] i j.val) (λj=>N.length-j.val) ⟨0,Z9 _⟩ ?_ ?_
  focus
   exact rp (c:=c) (N:=N) (S:=S) (L:=(S.take i).flatMap (pkS N c.A)++pkS (N.take 0) c.A S[i]) (s:=S[i]) (i:=i) (j:=0) 8 (by decide) (Z3 3) rfl rfl (.rw (by decide) rfl (by rw[Z6];rfl)) rfl rfl rfl rfl rfl rfl rfl rfl rfl rfl (.inl ⟨_,rfl,by rw[dC];exact congrArg ruL (q1e _).symm⟩)
  intro⟨j,hj⟩;have hj:j<=N.length:=hj;have Q:IntKind.i64.wrap ((j:Int)+1)=((j+1:Nat):Int):=by rw[aj (by omega) (by omega)];omega
  obtain⟨L,J⟩:∃L,L=(S.take i).flatMap (pkS N c.A)++pkS (N.take j) c.A S[i]:=⟨_,rfl⟩
  have bL:L.length<=1001000:=by
   have h1:=lP (N.take j) S[i];rw[q0l]at h1;rw[J,Z6];omega
  rw[<-J]
  conv=>whnf
  refine ag.dec (λh=>?_) (λh=>?_)
  focus
   have K:j<N.length:=q0v.1 h;obtain⟨r,hr⟩:=gN N[j] (q0k K);have er:rul c.A N[j]=r:=by unfold rul;rw[hr];rfl
   have sn:=xY (R:=c.A) (s:=S[i]) K;rw[er]at sn;have H:N.length-(j+1)<N.length-j:=by omega
   have y1:db r.src S[i]=true->L++ [r]=(S.take i).flatMap (pkS N c.A)++pkS (N.take (j+1)) c.A S[i]:=λq=>by rw[sn,if_pos (a8.1 q),J,q1a]
   have y0:db r.src S[i]=false->L=(S.take i).flatMap (pkS N c.A)++pkS (N.take (j+1)) c.A S[i]:=λq=>by
    have:r.src≠S[i]:=λe=>by rw[a8.2 e]at q;cases q
    rw[sn,if_neg this,q1e,J]
   have hsL:bl (ruL L) 0 (L.length*5)=some (ruL L):=bj (jq L);have hbL:(L.length+1)*56<=140737488355328:=by omega
   clear sn
   conv=>whnf
   refine Idx.mk j rfl K ?_
   conv=>whnf
   refine aq (cL K (q0r _)) ?_
   conv=>whnf
   refine Ask.mk _ (bb (m:=c) (g:=gR) (k:=N[j]) bP mkR rfl rfl rfl lB hr) ?_
   conv=>whnf
   refine ag.sb (λz=>?_) (λz=>?_)
   focus
    have q:=y1 z
    conv=>whnf
    refine Ask.mk _ (bb (m:=c) (g:=gR) (k:=N[j]) bP mkR rfl rfl rfl lB hr) ?_
    conv=>whnf
    refine bF.grow 5 56 _ _ _ _ _ _ U2 (.old rfl) rfl rfl (.rw rfl hsL) hbL ?_
    conv=>whnf
    exact⟨⟨j+1,K⟩,H,rp (c:=c) (N:=N) (S:=S) (L:=(S.take i).flatMap (pkS N c.A)++pkS (N.take (j+1)) c.A S[i]) (s:=S[i]) (i:=i) (j:=j+1) 10 (by decide) (Z3 3) rfl rfl (.rw (by decide) rfl (by rw[<-q,Z6];rfl)) rfl rfl rfl rfl rfl rfl (congrArg (AV.si .i64) Q) rfl rfl rfl (.inl ⟨_,rfl,by rw[<-q];exact xW L r⟩)⟩
   have q:=y0 z
   conv=>whnf
   exact⟨⟨j+1,K⟩,H,rp (c:=c) (N:=N) (S:=S) (L:=(S.take i).flatMap (pkS N c.A)++pkS (N.take (j+1)) c.A S[i]) (s:=S[i]) (i:=i) (j:=j+1) 8 (by decide) (Z3 3) rfl rfl (.rw (by decide) rfl (by rw[<-q])) rfl rfl rfl rfl rfl rfl (congrArg (AV.si .i64) Q) rfl rfl rfl (.inl ⟨_,rfl,by rw[<-q];exact dC L⟩)⟩
  have ej:j=N.length:=by have h:¬(j:Int)<(N.length:Int):=h;omega
  have eL:L=(S.take (i+1)).flatMap (pkS N c.A):=by rw[J,ej,q0u,e3]
  conv=>whnf
  exact⟨⟨i+1,G⟩,by show S.length-(i+1)<S.length-i;omega,x5 (c:=c) (N:=N) (S:=S) (L:=(S.take (i+1)).flatMap (pkS N c.A)) (i:=i+1) 8 (by decide) (Z3 3) rfl rfl (.rw (by decide) rfl (by rw[eL])) rfl rfl (congrArg (AV.si .i64) hw) rfl rfl rfl (.inl ⟨_,rfl,by rw[eL];exact dC _⟩)⟩
 have ei:i=S.length:=by have h:¬(i:Int)<(S.length:Int):=h;omega
 have eF:(S.take i).flatMap (pkS N c.A)=pkF c.A a:=by rw[ei,q0u,fin]
 have hLl:=lL i;obtain⟨L,J⟩:∃L,L=(S.take i).flatMap (pkS N c.A):=⟨_,rfl⟩;rw[<-J]at hLl eF;rw[<-J]
 conv=>whnf
 refine aN.mk {t:Nat×GrC//t.1<=L.length/\t.2.Ok/\t.2.A=lC c.A (L.take t.1)} 9 (λt=>grG k t.val.2 L t.val.1) (λt=>L.length-t.val.1) ⟨(0,c),Z9 _,B.o,rfl⟩ ?_ ?_
 focus
  exact II (k:=k) (c:=c) (L:=L) (i:=0) 8 (by decide) (by decide) rfl (.rw (by decide) rfl rfl) (.rw (by decide) rfl rfl) rfl rfl rfl rfl rfl (.inl ⟨_,rfl,dC L⟩)
 intro⟨(m,O),v,T,U⟩;have v:m<=L.length:=v;have hwm:IntKind.i64.wrap ((m:Int)+1)=((m+1:Nat):Int):=by rw[aj (by omega) (by omega)];omega
 conv=>whnf
 refine ag.dec (λh=>?_) (λh=>?_)
 focus
  have G:m<L.length:=q0v.1 h;have H:L.length-(m+1)<L.length-m:=by omega
  have e5:(O.del L[m].dst).A=lC c.A (L.take (m+1)):=by rw[xP,U,Gp G]
  have sub:=vo G (q1g (m*5));have go2:=T.del L[m].dst
  conv=>whnf
  refine Idx.mk m rfl G ?_
  conv=>whnf
  refine aq sub ?_
  conv=>whnf
  refine Ask.mk _ (tV (m:=O) (g:=gR) (k:=L[m].dst) bP mkR rfl rfl rfl) ?_
  conv=>whnf
  refine⟨⟨(m+1,O.del L[m].dst),G,go2,e5⟩,H,II (k:=k) (c:=O.del L[m].dst) (L:=L) (i:=m+1) 8 ?_ ?_ ?_ ?_ ?_ ?_ ?_ ?_ ?_ ?_ ?_⟩
  ·exact by decide
  ·exact by decide
  ·exact rfl
  ·exact .rw (by decide) rfl rfl
  ·exact .rw (by decide) rfl rfl
  ·exact rfl
  ·exact congrArg (AV.si .i64) hwm
  ·exact rfl
  ·exact rfl
  ·exact rfl
  ·exact .inl ⟨_,rfl,dC L⟩
 have em:m=L.length:=by have h:¬(m:Int)<(L.length:Int):=h;omega
 have e6:O.A=lC c.A (pkF c.A a):=by rw[U,em,q0u,eF]
 have e7:(AV.si .i64 (L.length:Int))= .si .i64 ((pkF c.A a).length:Int):=by rw[eF]
 have e8:∀e∈lC c.A (pkF c.A a),e∈c.A:=λe=>tX
 conv=>whnf
 exact⟨_,O,.told (congrArg mkT e7),⟨e6,T,λe E=>B.dst e (by rw[<-B.A];exact e8 e E),λe E=>B.lab e (by rw[<-B.A];exact e8 e E)⟩,mW rfl rfl⟩
def uV (x:Gr):List Rl:=pkF x λ_=>true
def ofG (x:Gr) (k:Tx):List Rl:=pkF x λr=>decide (r.src=k)
def pw(k:Tx)(r:Rl):Bool:=decide (r.src=k)||decide (r.dst=k)
def uM (x:Gr) (k:Tx):Gr:=lC x (pkF x (pw k))
def Oz(x:Gr)(cs:List AV)(v:AV):Prop:=cs=[]/\x.length<=1000/\v= .fr (uV x).length 5 (ruL (uV x))
def OA(x:Gr)(cs:List AV)(v:AV):Prop:=∃k,cs=[.ss k]/\x.length<=1000/\v= .fr (ofG x k).length 5 (ruL (ofG x k))
def Xm(x:Gr)(cs:List AV)(a:Gr)(v:AV):Prop:=∃k,cs=[.ss k]/\x.length<=1000/\a=uM x k/\v= .si .i64 ((pkF x (pw k)).length:Int)
theorem Rk:al 53 (dM 2 GrB Oz):=(gu x0 5 (by kernel_rfl) GrB rfl (by decide) λx cs h v ⟨b,d,e,f⟩=>by
 subst b d f;exact⟨rfl,rfl,λc a=>by have g:=a.A;subst g;exact zS _ c a e⟩).ol
theorem OB:al 133 (dM 2 GrB OA):=(gu x0 5 (by kernel_rfl) GrB rfl (by decide) λx cs h v ⟨b,k,d,e,f⟩=>by
 subst b d f;exact⟨rfl,rfl,λc a=>by have g:=a.A;subst g;exact Eh _ k c a e⟩).ol
theorem Va:al 133 (gM 2 GrB λx cs a v=>a=x/\OA x cs v):=uL (ay x0 5 _) (by kernel_rfl) GrB rfl (by decide) λx cs a v ⟨d,k,e,f,g⟩=>by
 subst d e g;exact⟨rfl,rfl,λc b=>by have h:=b.A;subst h;exact Eh _ k c b f⟩
theorem Rm:al 53 (gM 2 GrB λx cs a v=>a=x/\Oz x cs v):=uL (ay x0 5 _) (by kernel_rfl) GrB rfl (by decide) λx cs a v ⟨d,e,f,g⟩=>by
 subst d e g;exact⟨rfl,rfl,λc b=>by have h:=b.A;subst h;exact zS _ c b f⟩
theorem OC:al 69 (cK 2 GrB Xm):=gu U9 5 (by kernel_rfl) GrB rfl (by decide) λx cs h v ⟨k,b,d,e,f⟩=>by
 subst b e f;exact⟨rfl,rfl,λc a=>by have g:=a.A;subst g;exact Gv _ k c a d⟩
def OD:Option Rl->AV
 |none=> .tup [.agg [.str [],.str [],.int .i64 0,.int .i64 0,.int .i64 0],.sb false]
 |some r=> .tup [gR r,.sb true]
def Xn(x:Gr)(cs:List AV)(v:AV):Prop:=∃k,cs=[.ss k]/\v=OD (aD x k)
theorem OE:al 120 (dM 2 GrB Xn):=(gu az 3 (by kernel_rfl) GrB rfl (by decide) λx cs d v ⟨e,k,f,h⟩=>by
 subst e f h;refine⟨rfl,by cases aD d k<;>rfl,λc b=>?_⟩;have a:=b.A;subst a;cases a:aD c.A k with
 |none=>
  conv=>whnf
  refine Ask.mk _ (bb (m:=c) (g:=gR) bP mkR rfl rfl rfl lB a) ?_
  conv=>whnf
  exact⟨_,c,.told rfl,b,mW rfl rfl⟩
 |some r=>
  conv=>whnf
  refine Ask.mk _ (bb (m:=c) (g:=gR) bP mkR rfl rfl rfl lB a) ?_
  conv=>whnf
  exact⟨_,c,.told rfl,b,mW rfl rfl⟩).ol
def BF (x:Gr) (r:Rl):Gr×AV:=
 if cU r=false then(x,.si .i64 1)else if(aD x r.dst).isSome=true then(x,.si .i64 6)
 else if(aD x r.src).isSome=true∨0<(ofG x r.dst).length then(x,.si .i64 10)else(eg x r.dst r,.si .i64 0)
def SY(x:Gr)(cs:List AV)(a:Gr)(v:AV):Prop:=∃r y,cs=[gR r]/\x.length<=1000/\BF x r=y/\a=y.1/\v=y.2/\gj v=true
def Rn:DT:=[(5,[(some 1000000,[]),(none,[0,1,2,3,4,5,6,7,8,9,10,11,12])]),(8,[(some 1000000,[]),(none,[0,1,2,3,4,5,6,7,8,9,10,11,12])])]
def KGa:FuncId->EP:=aX 90 Rn (ao 89 (bV U3) (ao 133 (gM 2 GrB λx cs a v=>a=x/\OA x cs v) evP))
theorem Vb:aS KGa:=au (ab (ab az Va) Xk) (by kernel_rfl) (by kernel_rfl)
theorem K1(x:Gr)(r:Rl)(c:GrC)(n:yD x c)(d:x.length<=1000){y:Gr×AV}(p:BF x r=y):ax KGa 5 90 [.ptr 0 0,gR r] (mkH (bE (grO c) 0)) 2 (gm GrB y.1 y.2):=by
 have B:=n.A;have G:cU r=false->y=(x,.si .i64 1):=λq=>by rw[<-p];unfold BF;rw[if_pos q]
 have H:cU r=true->∀u,aD x r.dst=some u->y=(x,.si .i64 6):=λq u f=>by rw[<-p];unfold BF;rw[q,f];rfl
 have I:cU r=true->aD x r.dst=none->∀u,aD x r.src=some u->y=(x,.si .i64 10):=λq f u s=>by rw[<-p];unfold BF;rw[q,f,s];simp
 have J:cU r=true->aD x r.dst=none->aD x r.src=none->((ofG x r.dst).length:Int)>0->y=(x,.si .i64 10):=λq f s F=>by rw[<-p];unfold BF;rw[q,f,s,if_neg (by simp),if_neg (by simp),if_pos (.inr (by omega))]
 have K:cU r=true->aD x r.dst=none->aD x r.src=none->¬((ofG x r.dst).length:Int)>0->y=(eg x r.dst r,.si .i64 0):=λq f s F=>by rw[<-p];unfold BF;rw[q,f,s,if_neg (by simp),if_neg (by simp),if_neg (λh=>h.elim (by simp) (λh=>F (by omega)))]
 obtain⟨L,M⟩:=y
 conv=>whnf
 refine⟨_,_,_,.cons .same .nil,⟨r,rfl,rfl⟩,?_⟩
 conv=>whnf
 refine ag.nsb (λi=>?_) (λi=>?_)
 focus
  have e:=G i;injection e with e1 e2;subst e1 e2
  conv=>whnf
  exact⟨_,c,.told rfl,n,mW rfl rfl⟩
 cases t:aD c.A r.dst with
 |some u=>
  have e:=H i u (by rw[<-B];exact t);injection e with e1 e2;subst e1 e2
  conv=>whnf
  refine⟨?_,trivial⟩
  conv=>whnf
  refine Ask.mk _ (bb (m:=c) (g:=gR) (k:=r.dst) bP mkR rfl rfl rfl lB t) ?_
  conv=>whnf
  exact⟨_,c,.told rfl,n,mW rfl rfl⟩
 |none=>
  have j:aD x r.dst=none:=by rw[<-B];exact t
  cases C:aD c.A r.src with
  |some u=>
   have e:=I i j u (by rw[<-B];exact C);injection e with e1 e2;subst e1 e2
   conv=>whnf
   refine⟨?_,trivial⟩
   conv=>whnf
   refine Ask.mk _ (bb (m:=c) (g:=gR) (k:=r.dst) bP mkR rfl rfl rfl lB t) ?_
   conv=>whnf
   refine⟨?_,trivial⟩
   conv=>whnf
   refine Ask.mk _ (bb (m:=c) (g:=gR) (k:=r.src) bP mkR rfl rfl rfl lB C) ?_
   conv=>whnf
   exact⟨_,c,.told rfl,n,mW rfl rfl⟩
  |none=>
   have w:aD x r.src=none:=by rw[<-B];exact C
   conv=>whnf
   refine⟨?_,trivial⟩
   conv=>whnf
   refine Ask.mk _ (bb (m:=c) (g:=gR) (k:=r.dst) bP mkR rfl rfl rfl lB t) ?_
   conv=>whnf
   refine⟨?_,trivial⟩
   conv=>whnf
   refine Ask.mk _ (bb (m:=c) (g:=gR) (k:=r.src) bP mkR rfl rfl rfl lB C) ?_
   conv=>whnf
   refine⟨x,[.ss r.dst],_,_,_,c,rfl,by decide,.cons .same .nil,n,Xl rfl rfl,⟨rfl,r.dst,rfl,d,rfl⟩,λz a=>?_⟩;have l:=a.A
   conv=>whnf
   refine ag.dec (λz2=>?_) (λz2=>?_)
   focus
    have e:=J i j w z2;injection e with e1 e2;subst e1 e2
    conv=>whnf
    exact⟨_,z,.told rfl,a,mW rfl rfl⟩
   have e:=K i j w z2;injection e with e1 e2;subst e1 e2;have D:(z.put r.dst r).A=eg x r.dst r:=by rw[Ef,l]
   have E:yD (eg x r.dst r) (z.put r.dst r):=⟨D,a.o.put _ _,λe b=>by
    rw[<-D]at b;rcases nU b with rfl|b
    ·rfl
    ·exact a.dst e (by rw[<-l];exact b),λe b=>by
    rw[<-D]at b;rcases nU b with rfl|b
    ·exact i
    ·exact a.lab e (by rw[<-l];exact b)⟩
   conv=>whnf
   refine Ask.mk _ (rm (m:=z) (g:=gR) (v:=r) (k:=r.dst) bP mkR rfl rfl rfl rfl) ?_
   conv=>whnf
   exact⟨_,z.put r.dst r,.told rfl,E,mW rfl rfl⟩
theorem Ro:al 90 (cK 2 GrB SY):=gu Vb 5 (by kernel_rfl) GrB rfl (by decide) λx cs i v ⟨r,y,a,b,d,e,f,g⟩=>by
 subst a e f;exact⟨rfl,g,λc h=>K1 x r c h b d⟩
def qw(x:Gr)(s d:Tx):Gr×AV:=match aD x d with
 |none=>(x,.tup [.agg [.str [],.str [],.int .i64 0,.int .i64 0,.int .i64 0],.si .i64 5])
 |some r=>if r.src=s then(dq x d,.tup [gR r,.si .i64 0])else(x,.tup [.agg [.str [],.str [],.int .i64 0,.int .i64 0,.int .i64 0],.si .i64 5])
def Xo(x:Gr)(cs:List AV)(a:Gr)(v:AV):Prop:=∃s d y,cs=[.ss s,.ss d]/\qw x s d=y/\a=y.1/\v=y.2
theorem K3(x:Gr)(s d:Tx):gj (qw x s d).2=true:=by unfold qw;repeat' (first|rfl|split)
theorem OF:al 109 (cK 2 GrB Xo):=gu az 3 (by kernel_rfl) GrB rfl (by decide) λx cs p v ⟨s,d,y,h,a,j,l⟩=>by
 subst h j l;refine⟨rfl,by rw[<-a];exact K3 _ _ _,λc b=>?_⟩;have f:=b.A;unfold qw at a;cases h:aD c.A d with
 |none=>
  rw[<-f,h]at a;subst a
  conv=>whnf
  refine Ask.mk _ (bb (m:=c) (g:=gR) (k:=d) bP mkR rfl rfl rfl lB h) ?_
  conv=>whnf
  exact⟨_,c,.told rfl,⟨rfl,b.o,by rw[f];exact b.dst,by rw[f];exact b.lab⟩,mW rfl rfl⟩
 |some r=>
  rw[<-f,h]at a;have a:(if r.src=s then(dq c.A d,AV.tup [gR r,.si .i64 0])else(c.A,AV.tup [.agg [.str [],.str [],.int .i64 0,.int .i64 0,.int .i64 0],.si .i64 5]))=y:=a
  conv=>whnf
  refine Ask.mk _ (bb (m:=c) (g:=gR) (k:=d) bP mkR rfl rfl rfl lB h) ?_
  conv=>whnf
  refine ag.nsb (λz=>?_) (λz=>?_)
  focus
   rw[if_neg (λe=>by rw[a8.2 e]at z;cases z)]at a;subst a
   conv=>whnf
   exact⟨_,c,.told rfl,⟨rfl,b.o,by rw[f];exact b.dst,by rw[f];exact b.lab⟩,mW rfl rfl⟩
  rw[if_pos (a8.1 z)]at a;subst a;have n:(c.del d).A=dq c.A d:=xP _ _
  conv=>whnf
  refine Ask.mk _ (tV (m:=c) (g:=gR) (k:=d) bP mkR rfl rfl rfl) ?_
  conv=>whnf
  exact⟨_,c.del d,.told rfl,⟨n,b.o.del d,λe i=>b.dst e (by rw[<-f];exact sS i),λe i=>b.lab e (by rw[<-f];exact sS i)⟩,mW rfl rfl⟩
theorem Rp:al 52 (sJ 2 GrB λcs y=>cs=[]/\y=[]):=Od (ay az 3 _) (by kernel_rfl) GrB rfl (by decide) λcs y ⟨f,g⟩=>by
 subst f g;refine⟨rfl,?_⟩
 conv=>whnf
 refine⟨(MpC.no:GrC),⟨rfl,MpC.xN,λ_ h=>(by cases h),λ_ h=>(by cases h)⟩,Cov.ofR (λb=>1-b) (Z9 _) (λb j=>absurd j (q0o b)) (λx a=>?_) (λx a=>?_) (λx a y d e=>?_)⟩
 ·simp only[Z5,Z4,or_false]at a;subst a;exact .ptr (by decide) rfl
 ·simp only[bE,grO,GrB,Z5,Z4,or_false]at a;rcases a with rfl|rfl
  ·refine⟨by decide,.inl ⟨_,rfl,.cells (Z3 _) id λi k c=>?_⟩⟩
   match i,c with
   |0,c=>injection c with c;subst c;exact⟨_,rfl,.map (by decide) rfl⟩
   |i+1,c=>simp at c
  ·exact⟨by decide,.inl ⟨_,rfl,.Gl⟩⟩
 ·simp only[bE,grO,GrB,Z5,Z4,or_false]at a d;rcases a with rfl|rfl<;>rcases d with rfl|rfl<;>simp at e⊢
section
variable {r s:Nat->Nat}
mutual
theorem IJ:∀a:AV,ren r (ren s a)=ren (λb=>r (s b)) a
 | .agg l=>congrArg AV.agg (lD l)
 | .tup l=>congrArg AV.tup (lD l)
 | .fn f a c=>by simp only[ren,lD a,lD c]
 | .ptr _ _| .sl _ _ _ _ _| .esl _| .map _| .sy _ _ _ _ _| .rw _ _ _ _ _| .int _ _| .str _| .bool _| .nil| .nsl| .any _| .bad| .si _ _| .sb _| .ss _| .fr _ _ _| .fa _ _=>rfl
theorem lD:∀l:List AV,dw r (dw s l)=dw (λb=>r (s b)) l
 | []=>rfl
 |a::l=>by simp only[dw,IJ a,lD l]
end
theorem x6:∀l:List (AV×AV),rV r (rV s l)=rV (λb=>r (s b)) l
 | []=>rfl
 |a::l=>by simp only[rV,IJ,x6 l]
theorem OG(o:AO):bT r (bT s o)=bT (λb=>r (s b)) o:=by
 cases o with
 |cells l z=>exact congrArg (AO.cells · z) (lD l)
 |map es=>exact congrArg AO.map (x6 es)
 |mp es bs cl=>exact congrArg (AO.mp · bs cl) (x6 es)
 |ro l=>exact congrArg AO.ro (lD l)
 |iter b k seen=>rfl
 |sep Q=>rfl
end
def x7{X C Y E:Type}(k:Nat)(B:Obj X C)(D:Obj Y E)(R:X->List AV->X->Y->Prop)(args:List AV)(H:AH)(n:Nat)(κ:PK):Prop:=match args with
 |a::f=>∃b p x cs d y c,a=aA p/\b<n/\n<800000/\Res H n f c cs/\c.get b=some (.sep (B.Q x p))/\ia c (k+D.k+1) n=true/\R x cs d y/\∀e,κ (aA e) ((c.set (some (.sep (B.Q d p))) aa b).set (some (.sep (D.Q y e))) aa (n+k+D.k)) (n+k+D.k+1)
 |_=>False
def OH{Y E:Type}(D:Obj Y E)(k:Nat)(y:Y)(v:AV)(O:List AO):Prop:=∃e,D.ok y e/\v= .ptr k 0/\O=(D.O e).map (bT λj=>k+j)
theorem x8{H:AH}:∀{k m n:Nat},m<=k->ia H k n=true->ia H m n=true
 |_,0,_,_,_=>rfl
 |0,m+1,_,a,_=>by omega
 |k+1,m+1,n,a,h=>by
  unfold ia at h⊢;split at h
  ·exact x8 (by omega) h
  ·cases h
theorem al.os {X C Y E:Type} {f:FuncId} {k:Nat} {B:Obj X C} {D:Obj Y E} (hk9:k<1000) (hD9:D.k<1000) {R:X->List AV->X->Y->Prop}
 (h:al f (xD k B λx cs G P=>∃y,R x cs G y/\P=OH D k y)):al f (x7 k B D R):=λargs H n κ V φ h0 hp vs K hr l hk2=>by
 unfold x7 at V;split at V
 ·rename_i a ar;obtain⟨b,p,x,cs,G,y,H1,h1,hbn,hn9,I,hb,c,hR,hκ⟩:=V;refine h (a::ar) H n (λv2 J n2=>∃v O,OH D k y v O/\v2=ren (λj=>n+j) v/\J=Ga n k O (H1.set (some (.sep (B.Q G p))) aa b)/\n2=n+k+O.length) ⟨b,p,x,cs,G,OH D k y,H1,h1,hbn,hn9,I,hb,x8 (by omega) c,⟨y,hR,rfl⟩,λv O hP=>⟨v,O,hP,rfl,rfl,rfl⟩⟩ φ h0 hp vs K hr l λχ v2 J n2 u g hle hg hu ⟨v,O,⟨e,f1,f2,f3⟩,f4,f5,f6⟩=>?_
  have L:O.length=D.k:=by rw[f3,q0g,D.len]
  have hv:v2= .ptr (n+k) 0:=by rw[f4,f2];rfl
  obtain⟨m,hm⟩:∃m,m=n+k+D.k:=⟨_,rfl⟩;rw[L,<-hm]at f6;have hmm:m<900000:=by omega
  obtain⟨ψ,l1,t⟩:=hg.hole;rw[f6]at t;have d:(O.map (bT λj=>n+j)).length=D.k:=by rw[q0g,L]
  have at1:∀i o,(D.O e)[i]?=some o->J.get (n+k+i)=some (bT (λj=>n+k+j) o):=λi o W=>by
   rw[f5];refine vj (by rw[d];omega) ?_;rw[f3,q1b,q1b,W];show some (bT _ (bT _ o))=_;rw[OG];congr 2;funext j;exact(q1s _ _ _).symm
  have M:∀i o,(D.O e)[i]?=some o->(J.set (some (.sep .emp)) aa m).get (n+k+i)=some (bT (λj=>n+k+j) o):=λi o W=>by
   have:=(D.lt e W).1;exact PM.gne (by omega) (by omega) (at1 i o W)
  have sl:xr (J.set (some (.sep .emp)) aa m) (kF (n+k) D.k) (D.O e):=⟨nQ _ _,by rw[dh,D.len],λi s o h1 h2=>by
   obtain⟨h3,rfl⟩:=ph h1;obtain⟨_,h4,h5⟩:=D.lt e h2;refine⟨?_,h4,by rw[D.len];exact h5⟩;rw[M i o h2];exact congrArg some (eG (m:=D.k) (λj hj=>(mo hj).symm) h5)⟩
  obtain⟨a0,l0,z0,N⟩:=D.pos e;have U:=M 0 _ N;rcases t.live _ _ U with⟨_,w⟩|⟨q,ob,w,_⟩
  ·cases w
  rw[q2w]at w;have eq:q=⟨(q.B,q.s).1,(q.B,q.s).2,q.T⟩:=rfl
  rw[eq]at w
  obtain⟨ω,_,l3,_,hr3⟩:=t.F8 (O:=D.O e) (S:=kF (n+k) D.k) (b:=m) (p:=(q.B,q.s)) (Q:=D.Q y (q.B,q.s)) (H':=(H1.set (some (.sep (B.Q G p))) aa b).set (some (.sep (D.Q y (q.B,q.s)))) aa m) sl (PM.geq (by omega)) (λq=>by have:=gZ q;omega) (s0:=n+k) (by rw[sI (D.k0 e),q2w]) w (λx o hx=>by
   rcases PM.an aa _ m x o hx with⟨Z,A⟩|⟨Z,A⟩
   ·injection A with A;exact .inl ⟨Z,A.symm⟩
   ·have hout:x<n∨m<x:=by
     rcases PM.an aa _ b x o A with⟨j3,_⟩|⟨_,j4⟩
     ·exact .inl (by omega)
     ·rcases q3k x n with q|q
      ·exact .inl q
      ·exact .inr (Nat.lt_of_not_le λq2=>lq c q (by omega) j4)
    refine .inr ⟨Z,λq=>by have:=gZ q;omega,PM.gne (by omega) Z ?_⟩;rw[f5];exact mS (by rw[d];omega) (by rw[d];omega) A) λz X h hh=>⟨e,f1,hh⟩
  refine hk2 ω (aA (q.B,q.s)) _ _ u g ((hle.trans l1).trans l3) hr3 ?_ (by rw[hm];exact hκ (q.B,q.s));rw[hv]at hu;obtain⟨pl,F,g2⟩:=hu.cx;have F:=l1.b _ _ F;rw[w]at F;injection F with F;subst g2 F;exact rfl
 ·exact V.elim
def pA(L:List Rl):Gr:=L.foldl (λA r=>eg A r.dst r) []
def mX (x:Gr):Gr:=pA (uV x)
theorem Gw{L:List Rl}{i:Nat}(h:i<L.length):pA (L.take (i+1))=eg (pA (L.take i)) L[i].dst L[i]:=by
 unfold pA;rw[q0c h,q3b];rfl
def Vc(x:Gr)(cs:List AV)(a y:Gr):Prop:=cs=[]/\x.length<=1000/\a=x/\y=mX x
def KGc:FuncId->EP:=aX 67 [] (ao 53 (gM 2 GrB λx cs a v=>a=x/\Oz x cs v) evP)
theorem Vd:aS KGc:=au (ab az Rm) (by kernel_rfl) (by kernel_rfl)
def grY (c:GrC) (c2:GrC) (L:List Rl) (i:Nat):AE×AH:=(mkE [(3,.ptr 3 (0)),(10,.fr L.length 5 (ruL L)),(11,.si .i64 ((L.length:Int))),(12,.si .i64 ((i:Int)))],mkH [(0,.cells [.map 1] true),(1,c.O kT gR),(2,c2.O kT gR),(3,.cells [.map 2] true)])
theorem Rq{c:GrC}{c2:GrC}{L:List Rl}{i:Nat}{p n:Nat}{σ:AE}{H:AH}(e:p<=4)(f:ai (pa 3) σ= .ptr 3 (0))(a:ai (pa 10) σ= .fr L.length 5 (ruL L))(b:mk (ai (pa 11) σ)= .si .i64 ((L.length:Int)))(d:mk (ai (pa 12) σ)= .si .i64 ((i:Int)))(g:H.get 0=some (.cells [.map 1] true))(h:H.get 1=some (c.O kT gR))(j:H.get 2=some (c2.O kT gR))(k:H.get 3=some (.cells [.map 2] true)):Cov p σ H n ((grY c c2 L i).1,(grY c c2 L i).2,4):=
 Cov.ofA e ⟨.ptr (by decide) f,ae.frE a,.int b,.int d,trivial⟩ ⟨.inl ⟨_,g,ak.refl rfl⟩,.inl ⟨_,h,ak.refl (aC bK iX)⟩,.inl ⟨_,j,ak.refl (aC bK iX)⟩,.inl ⟨_,k,ak.refl rfl⟩,trivial⟩ rfl
theorem Gx(x:Gr)(c:GrC)(w:yD x c)(l:x.length<=1000):ax KGc 5 67 [.ptr 0 0] (mkH (bE (grO c) 0)) 2 (Oc GrB 2 x (OH GrB 2 (mX x))):=by
 obtain⟨L,C⟩:∃L,L=uV x:=⟨_,rfl⟩
 have D:∀r∈L,cU r=true:=λr hr=>by
  rw[C]at hr;have E:(x.map Prod.fst).Nodup:=by rw[<-w.A];exact w.o.key
  exact w.lab _ ((p7 E w.dst r).1 hr).1
 have J:L.length<=1000000:=by
  rw[C];unfold uV pkF;have M:=cw ((x.filter λ_=>true).map λe=>e.2.src);have N:=cw ((x.filter λ_=>true).map Prod.fst);rw[q0g]at M N;have z:(x.filter λ_=>true).length<=1000:=q0d (kG _) l
  have P:=sR (L:=aK ((x.filter λ_=>true).map λe=>e.2.src)) (f:=pkS (aK ((x.filter λ_=>true).map Prod.fst)) x) (b:=1000) λs _=>by
   unfold pkS;rw[q0g];exact q0d (kG _) (by omega)
  have Q:(aK ((x.filter λ_=>true).map λe=>e.2.src)).length*1000<=1000*1000:=q1p _ (by omega);exact q0d P Q
 have n:mX x=pA L:=by rw[C];rfl
 rw[n];have R:Oz x [] (.fr L.length 5 (ruL L)):=⟨rfl,l,by rw[C]⟩;clear C n
 conv=>whnf
 refine⟨x,[],_,_,_,c,rfl,by decide,.nil,w,Xl rfl rfl,⟨rfl,R⟩,λF G=>?_⟩
 conv=>whnf
 refine aN.mk {t:Nat×GrC//t.1<=L.length/\yD (pA (L.take t.1)) t.2} 4 (λt=>grY F t.val.2 L t.val.1) (λt=>L.length-t.val.1) ⟨(0,MpC.no),Z9 _,rfl,MpC.xN,λ_ h=>(by cases h),λ_ h=>(by cases h)⟩ ?_ ?_
 focus
  refine Cov.ofR (λb=>b) (by decide) (λb B=>rfl) (λx d=>?_) (λx d=>?_) (λx _ y _ e=>e)
  ·simp only[Z5,Z4,or_false]at d;rcases d with rfl|rfl|rfl|rfl
   ·exact .ptr (by decide) rfl
   ·exact ae.frE rfl
   ·exact .int rfl
   ·exact .int rfl
  ·simp only[Z5,Z4,or_false]at d;rcases d with rfl|rfl|rfl|rfl
   ·exact⟨by decide,.inl ⟨_,rfl,ak.refl rfl⟩⟩
   ·exact⟨(by decide:1<4),.inl ⟨_,rfl,ak.refl (aC bK iX)⟩⟩
   ·exact⟨(by decide:2<4),.inl ⟨_,rfl,.Gl⟩⟩
   ·exact⟨by decide,.inl ⟨_,rfl,ak.refl rfl⟩⟩
 intro⟨(i,p),q,a⟩;have q:i<=L.length:=q;have S:IntKind.i64.wrap ((i:Int)+1)=((i+1:Nat):Int):=by rw[aj (by omega) (by omega)];omega
 conv=>whnf
 refine ag.dec (λh=>?_) (λh=>?_)
 focus
  have z:i<L.length:=q0v.1 h;have H:L.length-(i+1)<L.length-i:=by omega
  have sub:=vo z rfl
  have hr:=D L[i] (q0k z);have I:(p.put L[i].dst L[i]).A=pA (L.take (i+1)):=by rw[Ef,a.A,Gw z]
  have go2:yD (pA (L.take (i+1))) (p.put L[i].dst L[i]):=⟨I,a.o.put _ _,λe u=>by
   rw[<-I]at u;rcases nU u with rfl|u
   ·rfl
   ·exact a.dst e (by rw[<-a.A];exact u),λe u=>by
   rw[<-I]at u;rcases nU u with rfl|u
   ·exact hr
   ·exact a.lab e (by rw[<-a.A];exact u)⟩
  conv=>whnf
  refine Idx.mk i rfl z ?_
  conv=>whnf
  refine aq sub ?_
  conv=>whnf
  refine Ask.mk _ (rm (m:=p) (g:=gR) (v:=L[i]) (k:=L[i].dst) bP mkR rfl rfl rfl rfl) ?_
  conv=>whnf
  exact⟨⟨(i+1,p.put L[i].dst L[i]),z,go2⟩,H,Rq (c:=F) (c2:=p.put L[i].dst L[i]) (L:=L) (i:=i+1) (by decide) rfl rfl rfl (congrArg (AV.si .i64) S) rfl rfl rfl rfl⟩
 have T:i=L.length:=by have h:¬(i:Int)<(L.length:Int):=h;omega
 have U:yD (pA L) p:=by have:=a;rw[T,q0u]at this;exact this
 conv=>whnf
 refine⟨.ptr 2 0,[.cells [.map 3] true,p.O kT gR],F,⟨p,U,rfl,?_⟩,G,rfl,λo ho=>?_,Z0 rfl,Cov.ofR (λb=>if b=2 then 3 else if b=3 then 2 else b) (Z0 rfl) (λb B=>by show(if b=2 then 3 else if b=3 then 2 else b)=b;rw[if_neg (by omega),if_neg (by omega)]) (λx d=>?_) (λx d=>?_) (λx d y K e=>?_)⟩
 ·show _=[bT _ _,bT _ _];rw[(eG (m:=0) (r':=λb=>b) (λc w=>absurd w (q0o c)) (aC (m:=p) (j:=0) bK iX)).trans (vl _)];rfl
 ·simp only[Z5,Z4,or_false]at ho;rcases ho with rfl|rfl
  ·exact⟨rfl,rfl⟩
  ·exact⟨rfl,aC bK iX⟩
 ·simp only[Z5,Z4,or_false]at d;subst d;exact .ptr (Z0 rfl) rfl
 ·simp only[bE,grO,GrB,q1w,q2m,Z5,Z4,or_false]at d;rcases d with rfl|rfl|rfl|rfl
  ·exact⟨Z0 rfl,.inl ⟨_,rfl,ak.bz (k:=2) rfl (Z0 rfl) (λb B=>by rw[if_neg (by omega),if_neg (by omega)])⟩⟩
  ·exact⟨Z0 rfl,.inl ⟨_,rfl,ak.bz (k:=0) (aC bK iX) (Z0 rfl) (λb B=>absurd B (q0o b))⟩⟩
  ·refine⟨Z0 rfl,.inl ⟨_,rfl,.cells (Z3 _) id λi W q=>?_⟩⟩
   match i,q with
   |0,q=>injection q with q;subst q;exact⟨_,rfl,.map (Z0 rfl) rfl⟩
   |i+1,q=>simp at q
  ·exact⟨Z0 rfl,.inl ⟨_,rfl,ak.bz (k:=0) (aC bK iX) (Z0 rfl) (λb B=>absurd B (q0o b))⟩⟩
 ·simp only[bE,grO,GrB,q1w,q2m,Z5,Z4,or_false]at d K;rcases d with rfl|rfl|rfl|rfl<;>rcases K with rfl|rfl|rfl|rfl<;>simp at e⊢
theorem OI:al 67 (x7 2 GrB GrB Vc):= .os (by decide) (by decide) (xE (ay Vd 5 _) (by kernel_rfl) GrB rfl (by decide) λx cs h P ⟨y,⟨a,b,d,e⟩,f⟩=>by
 subst a d e f;exact⟨rfl,λc g=>Gx _ c g b⟩)
structure SE where
 p:Nat×Nat
 S:Sr
 L:Smp
 z:Int
def gE(e:SE):AV:= .agg [aA e.p,.si .i64 e.z]
def YO(e:SE):HP:=cn e.p e.S e.L
def aH(A:List (Tx×SE)):List HP:=A.map λe=>YO e.2
structure SpC where
 m:MpC Tx SE
 x:Ix
 px:Nat×Nat
 g:Gr
 pg:Nat×Nat
def spO(c:SpC):List AO:=[.cells [.map 1,aA c.px,aA c.pg] true,c.m.O kT gE,.sep (IxB.Q c.x c.px),.sep (GrB.Q c.g c.pg),.sep (aE (aH c.m.A))]
structure fK where
 S:Sr
 L:Smp
 z:Int
 lab:List Lab
structure SpV where
 K:Tx->Option fK
 R:Tx->Option Rl
 n:Nat
def pB(e:SE):Sr×Smp×Int:=(e.S,e.L,e.z)
def Gy(e:fK):Sr×Smp×Int:=(e.S,e.L,e.z)
structure bA(X:SpV)(c:SpC):Prop where
 o:c.m.Ok
 xk:(c.x.A.map Prod.fst).Nodup
 gk:(c.g.map Prod.fst).Nodup
 n9:X.n<=1000
 ml:c.m.A.length<=X.n
 xl:c.x.A.length<=X.n
 xw:c.x.w<=8*X.n
 gl:c.g.length<=X.n
 K:∀k,(aD c.m.A k).map pB=(X.K k).map Gy
 I:∀k,aD c.x.A k=(X.K k).map fK.lab
 R:∀k,aD c.g k=X.R k
 dst:∀e∈c.g,e.2.dst=e.1
 ser:∀k e,X.K k=some e->iZ e.S e.L
 key:∀k e,X.K k=some e->iu k=true
 rul:∀k r,X.R k=some r->cU r=true
theorem iG{j:Nat}(e:SE):ltV j (gE e)=true:=rfl
def SpB:Obj SpV SpC where
 ok:=bA
 O:=spO
 k:=5
 len _:=rfl
 own c o h:=by
  simp only[spO,Z5,Z4,or_false]at h;rcases h with rfl|rfl|rfl|rfl|rfl
  ·exact⟨rfl,rfl⟩
  ·exact⟨rfl,aC bK iG⟩
  ·exact⟨rfl,rfl⟩
  ·exact⟨rfl,rfl⟩
  ·exact⟨rfl,rfl⟩
 pos c:=⟨_,_,_,rfl⟩
theorem bQ{H:AH}{c:SpC}(a:H.get 0=some (.cells [.map 1,aA c.px,aA c.pg] true))(b:H.get 1=some (c.m.O kT gE))(d:H.get 2=some (.sep (IxB.Q c.x c.px)))(e:H.get 3=some (.sep (GrB.Q c.g c.pg)))(f:H.get 4=some (.sep (aE (aH c.m.A)))):xC H 5 (spO c) 0:=
 ⟨⟨_,a,.refl rfl⟩,⟨_,b,.refl (aC bK iG)⟩,⟨_,d,.refl rfl⟩,⟨_,e,.refl rfl⟩,⟨_,f,.refl rfl⟩,trivial⟩
theorem tY{H:AH}{c:SpC}(a:H.get 0=some (.cells [.map 1,aA c.px,aA c.pg] true))(b:H.get 1=some (c.m.O kT gE))(d:H.get 2=some (.sep (IxB.Q c.x c.px)))(e:H.get 3=some (.sep (GrB.Q c.g c.pg)))(f:H.get 4=some (.sep (aE (aH c.m.A)))):∀i o,(spO c)[i]?=some o->H.get i=some o
 |0,o,h=>by injection h with h;subst h;exact a
 |1,o,h=>by injection h with h;subst h;exact b
 |2,o,h=>by injection h with h;subst h;exact d
 |3,o,h=>by injection h with h;subst h;exact e
 |4,o,h=>by injection h with h;subst h;exact f
 |i+5,o,h=>by simp[spO]at h
theorem nV:dO Tryz.prog 92=some (9,.string,105):=by kernel_rfl
theorem qe:c7 Tryz.prog 105=some (.agg #[.pointer none,.int .i64 0]):=by kernel_rfl
section
variable {X:SpV} {c:SpC}
theorem bA.has(h:bA X c)(k:Tx):(aD c.x.A k).isSome=(X.K k).isSome:=by rw[h.I];simp
def Gz(m:MpC Tx SE)(k:Tx)(a b:List (Tx×SE)):Prop:=∀E,m.put k E=⟨a++(k,E)::b,m.bs,m.cl⟩
theorem Rr{m:MpC Tx SE}{k:Tx}{E:SE}(h:aD m.A k=some E):∃a b,m.A=a++(k,E)::b/\Gz m k a b:=by
 unfold aD at h;rw[Z7]at h;obtain⟨⟨i,u⟩,d,rfl⟩:=h;have e:=(gA d).2;rw[q3q]at e;obtain⟨f,g⟩:=q0e.1 e;refine⟨m.A.take i,m.A.drop (i+1),?_,λE=>?_⟩
 ·rw[<-g,<-q0t f,q1q]
 ·unfold MpC.put;rw[d];show(⟨m.A.set i (k,E),m.bs,m.cl⟩:MpC Tx SE)=_;rw[List.set_eq_take_append_cons_drop,if_pos f]
theorem bA.at1(h:bA X c){k:Tx}{e:fK}(i:X.K k=some e):∃p b d,aD c.m.A k=some ⟨p,e.S,e.L,e.z⟩/\c.m.A=b++(k,⟨p,e.S,e.L,e.z⟩)::d/\Gz c.m k b d/\aH c.m.A=aH b++cn p e.S e.L::aH d:=by
 have a:=h.K k;rw[i]at a;cases f:aD c.m.A k with
 |none=>rw[f]at a;cases a
 |some u=>
  rw[f]at a;obtain⟨p,S,L,z⟩:=u;injection a with a;simp only[pB,Gy,q3j]at a;obtain⟨rfl,rfl,rfl⟩:=a;obtain⟨b,d,g,j⟩:=Rr f;refine⟨p,b,d,rfl,g,j,?_⟩;rw[g];unfold aH;rw[q0x];rfl
def fO(X:SpV)(k:Tx)(e:fK):SpV:={X with K:=λx=>if x=k then some e else X.K x}
theorem bA.x9(h:bA X c){k:Tx}{e:fK}(g:X.K k=some e){p:Nat×Nat}{d f:List (Tx×SE)}(r:aD c.m.A k=some ⟨p,e.S,e.L,e.z⟩)(i:c.m.A=d++(k,⟨p,e.S,e.L,e.z⟩)::f)(j:Gz c.m k d f){S':Sr}{a:Smp}(ho:iZ S' a):
 bA (fO X k {e with S:=S',L:=a}) {c with m:=c.m.put k ⟨p,S',a,e.z⟩}/\(c.m.put k ⟨p,S',a,e.z⟩).O kT gE=c.m.O kT gE/\aH (c.m.put k ⟨p,S',a,e.z⟩).A=aH d++cn p S' a::aH f:=by
 have l:(c.m.put k ⟨p,S',a,e.z⟩).A=d++(k,⟨p,S',a,e.z⟩)::f:=congrArg MpC.A (j _);refine⟨⟨h.o.put k _,h.xk,h.gk,h.n9,?_,h.xl,h.xw,h.gl,λx=>?_,λx=>?_,h.R,h.dst,λx y b=>?_,λx y b=>?_,h.rul⟩,?_,?_⟩
 ·rw[l];have:=h.ml;rw[i]at this;simpa[fO]using this
 ·rw[xM h.o];by_cases q:x=k
  ·subst q;simp[fO,pB,Gy]
  ·simp[fO,q,h.K x]
 ·by_cases q:x=k
  ·subst q;simp[fO,h.I x,g]
  ·simp[fO,q,h.I x]
 ·by_cases q:x=k
  ·subst q;simp only[fO,if_true,q2f]at b;subst b;exact ho
  ·simp only[fO,if_neg q]at b;exact h.ser x y b
 ·by_cases q:x=k
  ·subst q;exact h.key x e g
  ·simp only[fO,if_neg q]at b;exact h.key x y b
 ·have n:c.m.put k ⟨p,S',a,e.z⟩=⟨d++(k,⟨p,S',a,e.z⟩)::f,c.m.bs,c.m.cl⟩:=j _;unfold MpC.O;rw[n];show AO.mp (iV kT gE (d++_::f)) _ _=_;rw[i];unfold iV;simp only[q0x,q1y];rfl
 ·rw[l];unfold aH;rw[q0x];rfl
theorem bA.no1(h:bA X c){k:Tx}(b:X.K k=none):aD c.m.A k=none:=by
 have a:=h.K k;rw[b]at a;cases d:aD c.m.A k with
 |none=>rfl
 |some u=>rw[d]at a;cases a
end
def dD(X:SpV)(k:Tx):Int:=if(X.K k).isSome=true then(if(X.R k).isSome=true then 10 else 0)else 5
def Rs(X:SpV)(cs:List AV)(a:SpV)(v:AV):Prop:=∃k,cs=[.ss k]/\a=X/\v= .si .i64 (dD X k)
def KWr:FuncId->EP:=ao 84 (dM 4 IxB KY) (ao 120 (dM 2 GrB Xn) evP)
theorem Ve:aS KWr:=ab (ab az OE) sO
theorem K4(X:SpV)(k:Tx)(c:SpC)(a:bA X c):ax KWr 5 61 [.ptr 0 0,.ss k] (mkH (bE (spO c) 0)) 5 (gm SpB X (.si .i64 (dD X k))):=by
 have b:=a.has k;have f:=a.R k;cases d:X.K k with
 |none=>
  rw[d]at b;have e:dD X k=5:=by unfold dD;rw[d];rfl
  rw[e]
  conv=>whnf
  refine⟨2,c.px,c.x,[.ss k],.sb false,rfl,by decide,by decide,.cons .same .nil,rfl,rfl,⟨k,rfl,congrArg AV.sb b.symm⟩,?_⟩
  conv=>whnf
  refine ag.nsb (λz=>?_) (λz=>?_)
  focus
   conv=>whnf
   exact⟨_,c,.told rfl,a,bQ rfl rfl rfl rfl rfl⟩
  cases z
 |some u=>
  rw[d]at b;cases h:X.R k with
  |none=>
   rw[h]at f;have e:dD X k=0:=by unfold dD;rw[d,h];rfl
   rw[e]
   conv=>whnf
   refine⟨2,c.px,c.x,[.ss k],.sb true,rfl,by decide,by decide,.cons .same .nil,rfl,rfl,⟨k,rfl,congrArg AV.sb b.symm⟩,?_⟩
   conv=>whnf
   refine ag.nsb (λz=>?_) (λz=>?_)
   focus
    cases z
   conv=>whnf
   refine⟨3,c.pg,c.g,[.ss k],OD none,rfl,by decide,by decide,.cons .same .nil,rfl,rfl,⟨k,rfl,by rw[f]⟩,?_⟩
   conv=>whnf
   refine ag.sb (λz=>?_) (λz=>?_)
   focus
    cases z
   conv=>whnf
   exact⟨_,c,.told rfl,a,bQ rfl rfl rfl rfl rfl⟩
  |some r=>
   rw[h]at f;have e:dD X k=10:=by unfold dD;rw[d,h];rfl
   rw[e]
   conv=>whnf
   refine⟨2,c.px,c.x,[.ss k],.sb true,rfl,by decide,by decide,.cons .same .nil,rfl,rfl,⟨k,rfl,congrArg AV.sb b.symm⟩,?_⟩
   conv=>whnf
   refine ag.nsb (λz=>?_) (λz=>?_)
   focus
    cases z
   conv=>whnf
   refine⟨3,c.pg,c.g,[.ss k],OD (some r),rfl,by decide,by decide,.cons .same .nil,rfl,rfl,⟨k,rfl,by rw[f]⟩,?_⟩
   conv=>whnf
   refine ag.sb (λz=>?_) (λz=>?_)
   focus
    conv=>whnf
    exact⟨_,c,.told rfl,a,bQ rfl rfl rfl rfl rfl⟩
   cases z
theorem BG:al 61 (gM 5 SpB Rs):=uL (ay Ve 5 _) (by kernel_rfl) SpB rfl (by decide) λX cs f v ⟨k,a,b,d⟩=>by
 subst a b d;exact⟨rfl,rfl,λc e=>K4 _ k c e⟩
def sT (H:AH) (n b:Nat) (A C:List HP) (Q:HP):AH:=(H.set (some (.sep (aE (A++C)))) aa b).set (some (.sep Q)) aa n
section
variable {H:AH} {n b:Nat} {A C:List HP} {Q:HP}
theorem OJ{x:Nat}{o:AO}(hn:n<800000)(d:b<n)(h:H.get x=some o)(a:x≠b)(c:x≠n):(sT H n b A C Q).get x=some o:=PM.gne (by omega) c (PM.gne (by omega) a h)
theorem OK(hn:n<800000)(a:b<n):(sT H n b A C Q).get b=some (.sep (aE (A++C))):=PM.gne (by omega) (by omega) (PM.geq (by omega))
theorem rq(hn:n<800000):(sT H n b A C Q).get n=some (.sep Q):=PM.geq (by omega)
theorem me{x:Nat}(d:n<x)(f:b<n)(h:H.get x=none):(sT H n b A C Q).get x=none:=by
 cases e:(sT H n b A C Q).get x with
 |none=>rfl
 |some o=>
  rcases PM.an aa _ n x o e with⟨c,_⟩|⟨_,a⟩
  ·omega
  rcases PM.an aa _ b x o a with⟨c,_⟩|⟨_,a⟩
  ·omega
  rw[h]at a;cases a
theorem eJ{k:Nat}:∀{m:Nat},ia H m n=true->k<m->H.get (n+k)=none:=λ{m} h a=>by
 cases e:H.get (n+k)with
 |none=>rfl
 |some o=>exact(lq h (q1c n k) (by omega) e).elim
theorem kP(h:ia H 5 n=true)(hn:n<700000)(a:b<n):mb (sT H n b A C Q) (n+1):=
 ⟨by omega,me (by omega) a (eJ (k:=1) h (by decide)),me (by omega) a (eJ (k:=2) h (by decide)),me (by omega) a (eJ (k:=3) h (by decide)),me (by omega) a (eJ (k:=4) h (by decide))⟩
end
def Xp(run:List AV->AH->Nat->PK->Prop)(args:List AV)(H:AH)(n:Nat)(κ:PK):Prop:=∃(b:Nat) (A C:List HP) (Q:HP) (a:AV->HP->Nat->Prop),b<n/\n<700000/\H.get n=none/\H.get b=some (.sep (aE (A++Q::C)))/\run args (sT H n b A C Q) (n+1) (λv e d=>∃c,e=(sT H n b A C Q).set (some (.sep c)) aa n/\a v c d)/\∀v c d,a v c d->κ v (H.set (some (.sep (aE (A++c::C)))) aa b) d
theorem al.s1{f:FuncId}{run:List AV->AH->Nat->PK->Prop}(h:al f run):al f (Xp run):=λargs H n R ⟨b,A,C,Q,l,m,S,t,y,z,B⟩ D E F G K I c J=>by
 refine h.w.st args H n (λu v i=>∃a j,l u a i/\j=(sT H n b A C Q).set (some (.sep a)) aa n/\v=(j.set none aa n).set (some (.sep (aE (A++a::C)))) aa b) ⟨b,A,C,Q,m,by omega,t,y,_,z,λu j i ⟨a,p,q⟩=>?_⟩ D E F G K I c λL u v i w g r M N ⟨a,j,p,q,O⟩=>?_
 ·subst p;exact⟨a,PM.gne (by omega) (by omega) (OK (by omega) m),PM.geq (by omega),a,_,q,rfl,rfl⟩
 ·subst q O;refine J L u _ _ w g r (M.less λx o P=>?_) N (B u a i p);rcases PM.an aa _ b x o P with⟨k,d⟩|⟨k,d⟩
  ·subst k;injection d with d;subst d;exact PM.geq (by omega)
  ·have s:x≠n:=λe=>by subst e;rw[t]at d;cases d
   exact PM.gne (by omega) k (PM.gne (by omega) s (PM.gne (by omega) s (OJ (by omega) m d k s)))
def Xq(run:List AV->AH->Nat->PK->Prop)(args:List AV)(H:AH)(n:Nat)(κ:PK):Prop:=∃(b:Nat) (A C:List HP) (Q:HP) (a:AV->AO->Nat->Nat->Prop),b<n/\n<700000/\H.get n=none/\H.get b=some (.sep (aE (A++Q::C)))/\run args (sT H n b A C Q) (n+1) (λv d c=>∃o m,n<m/\m<900000/\d=(sT H n b A C Q).set (some o) aa m/\a v o m c)/\∀v o m c,a v o m c->κ v (H.set (some o) aa m) c
theorem al.s2{f:FuncId}{run:List AV->AH->Nat->PK->Prop}(d:al f run):al f (Xq run):=λargs H n U ⟨b,A,C,Q,j,k,V,t,v,D,E⟩ F G I J K L c M=>by
 refine d.w.st args H n (λu y h=>∃o m i,n<m/\m<900000/\j u o m h/\i=(sT H n b A C Q).set (some o) aa m/\y=(i.set none aa n).set (some (.sep (aE (A++Q::C)))) aa b) ⟨b,A,C,Q,k,by omega,t,v,_,D,λu i h ⟨o,m,e0,z,l,p⟩=>?_⟩ F G I J K L c λN u y h w g r O P ⟨o,m,i,e0,z,l,p,R⟩=>?_
 ·subst l;exact⟨Q,PM.gne (by omega) (by omega) (OK (by omega) k),PM.gne (by omega) (by omega) (rq (by omega)),o,m,_,e0,z,p,rfl,rfl⟩
 ·subst p R;refine M N u _ _ w g r (O.less λx S T=>?_) P (E u o m h l);rcases PM.an aa _ m x S T with⟨s,a⟩|⟨s,a⟩
  ·subst s;injection a with a;subst a;exact PM.gne (by omega) (by omega) (PM.gne (by omega) (by omega) (PM.geq (by omega)))
  ·have B:x≠n:=λe=>by subst e;rw[t]at a;cases a
   by_cases q:x=b
   ·subst q;rw[v]at a;injection a with a;subst a;exact PM.geq (by omega)
   ·exact PM.gne (by omega) q (PM.gne (by omega) B (PM.gne (by omega) s (OJ (by omega) k a q B)))
def mY(B:Sr->Smp->List AV->AV->Prop)(args:List AV)(H:AH)(n:Nat)(κ:PK):Prop:=match args with
 |x::a=>∃(b:Nat) (A C:List HP) (p:Nat×Nat) (S:Sr) (L:Smp) (v:AV),x=aA p/\b<n/\n<700000/\ia H 5 n=true/\H.get b=some (.sep (aE (A++cn p S L::C)))/\B S L a v/\κ v H (n+4)
 |_=>False
theorem BH(B:Sr->Smp->List AV->AV->Prop):iC (mY B):=λargs H n l a=>by
 unfold mY at*;split at a
 ·obtain⟨b,A,C,p,S,L,v,c,d,e,f,g,i,j⟩:=a;exact⟨v,H,n+4,j,λ_ _ h=>h,q1c _ _,λk h=>⟨b,A,C,p,S,L,v,c,d,e,f,g,i,h⟩⟩
 ·exact a.elim
theorem al.ql{f:FuncId}{B:Sr->Smp->List AV->AV->Prop}(h:al f (sG B)):al f (mY B):=λargs H n e a=>by
 unfold mY at a;split at a
 ·obtain⟨b,A,C,p,S,L,v,g,c,i,d,j,l,m⟩:=a;exact h.sl _ H n e ⟨b,A,C,cn p S L,v,n+4,c,by omega,eJ (k:=0) d (by decide),j,by omega,⟨n,p,S,L,v,g,by omega,rq (H:=H) (b:=b) (A:=A) (C:=C) (by omega),kP d i c,l,rfl,rfl,rfl⟩,m⟩
 ·exact a.elim
def ya(B:Smp->List AV->Smp->Prop)(args:List AV)(H:AH)(n:Nat)(κ:PK):Prop:=match args with
 |x::a=>∃(b:Nat) (A C:List HP) (p:Nat×Nat) (S:Sr) (L O:Smp),x=aA p/\b<n/\n<700000/\ia H 5 n=true/\H.get b=some (.sep (aE (A++cn p S L::C)))/\B L a O/\κ (.rw (n+4) 0 O.length 2 0) (H.set (some (.cells (smp O) true)) aa (n+4)) (n+5)
 |_=>False
theorem Vf(B:Smp->List AV->Smp->Prop):iC (ya B):=λargs H n r a=>by
 unfold ya at*;split at a
 ·obtain⟨b,A,C,p,S,L,O,f,g,i,d,j,l,m⟩:=a;exact⟨_,_,_,m,λx o c=>PM.gne (by omega) (λe=>by subst e;rw[eJ (k:=4) d (by decide)]at c;cases c) c,q1c _ _,λq h=>⟨b,A,C,p,S,L,O,f,g,i,d,j,l,h⟩⟩
 ·exact a.elim
theorem al.qm{f:FuncId}{B:Smp->List AV->Smp->Prop}(h:al f (D1 B)):al f (ya B):=λargs H n i a=>by
 unfold ya at a;split at a
 ·obtain⟨b,A,C,p,S,L,O,j,c,d,e,l,q,r⟩:=a;refine h.s2 _ H n i ⟨b,A,C,cn p S L,λv o m g=>v= .rw (n+4) 0 O.length 2 0/\o= .cells (smp O) true/\m=n+4/\g=n+5,c,d,eJ (k:=0) e (by decide),l,⟨n,p,S,L,O,j,by omega,rq (by omega),kP e d c,q,?_⟩,λv o m g ⟨s,t,u,w⟩=>by subst s t u w;exact r⟩;exact⟨_,n+4,by omega,by omega,rfl,rfl,rfl,rfl,rfl⟩
 ·exact a.elim
def IK(args:List AV)(H:AH)(n:Nat)(κ:PK):Prop:=match args with
 | [x,y,z]=>∃(b:Nat) (A C:List HP) (p:Nat×Nat) (S:Sr) (L:Smp) (t v q:Int) (a:Sr) (c:Smp) (e:Int),x=aA p/\b<n/\n<700000/\ia H 5 n=true/\H.get b=some (.sep (aE (A++cn p S L::C)))/\nK y t v/\mk z= .si .i64 q/\aR v/\L.length<=40000/\gY S L t v q=((a,c),e)/\(iZ a c->κ (.si .i64 e) (H.set (some (.sep (aE (A++cn p a c::C)))) aa b) (n+5))
 |_=>False
theorem OL:al 72 IK:=λargs H n m a=>by
 unfold IK at a;split at a
 ·obtain⟨b,A,C,p,S,L,t,v,q,c,d,e,r,h,i,j,s,w,x,y,z,f,g⟩:=a;refine UE.s1 _ H n m ⟨b,A,C,cn p S L,λu B l=>iZ c d/\u= .si .i64 e/\B=cn p c d/\l=n+5,h,i,eJ (k:=0) j (by decide),s,⟨n,p,S,L,t,v,q,c,d,e,r,by omega,rq (by omega),kP j i h,w,x,y,z,f,λho=>⟨_,rfl,ho,rfl,rfl,rfl⟩⟩,λv o l ⟨e0,D,E,F⟩=>by subst D E F;exact g e0⟩
 ·exact a.elim
def zT(args:List AV)(H:AH)(n:Nat)(κ:PK):Prop:=match args with
 | [x,y,z]=>∃(b:Nat) (A C:List HP) (p:Nat×Nat) (S:Sr) (L:Smp) (a c:Int) (d:Smp) (m:Nat),x=aA p/\b<n/\n<700000/\ia H 5 n=true/\H.get b=some (.sep (aE (A++cn p S L::C)))/\mk y= .si .i64 a/\mk z= .si .i64 c/\L.length<=40000/\aO L a c=d/\L.length-d.length=m/\(iZ S d->κ (.si .i64 (m:Int)) (H.set (some (.sep (aE (A++cn p S d::C)))) aa b) (n+5))
 |_=>False
theorem BI:al 100 zT:=λargs H n r d=>by
 unfold zT at d;split at d
 ·obtain⟨b,A,C,p,S,L,a,c,e,m,s,i,j,l,t,w,x,y,f,g,h⟩:=d;refine UF.s1 _ H n r ⟨b,A,C,cn p S L,λu z q=>iZ S e/\u= .si .i64 (m:Int)/\z=cn p S e/\q=n+5,i,j,eJ (k:=0) l (by decide),t,⟨n,p,S,L,a,c,e,m,s,by omega,rq (by omega),kP l j i,w,x,y,f,g,λho=>⟨_,rfl,ho,rfl,rfl,rfl⟩⟩,λv o q ⟨e0,B,D,E⟩=>by subst B D E;exact h e0⟩
 ·exact d.elim
def OM(args:List AV)(H:AH)(n:Nat)(κ:PK):Prop:=match args with
 | [x,y,z]=>∃(b:Nat) (A C:List HP) (p:Nat×Nat) (S:Sr) (L:Smp) (r q:Int) (a:Sr) (c:Smp) (e:Int),x=aA p/\b<n/\n<700000/\ia H 5 n=true/\H.get b=some (.sep (aE (A++cn p S L::C)))/\mk y= .si .i64 r/\mk z= .si .i64 q/\L.length<=40000/\jM S L r q=((a,c),e)/\(iZ a c->κ (.si .i64 e) (H.set (some (.sep (aE (A++cn p a c::C)))) aa b) (n+5))
 |_=>False
theorem Vg:al 108 OM:=λargs H n m a=>by
 unfold OM at a;split at a
 ·obtain⟨b,A,C,p,S,L,r,q,c,d,e,s,h,i,j,t,w,x,y,f,g⟩:=a;refine UG.s1 _ H n m ⟨b,A,C,cn p S L,λu z l=>iZ c d/\u= .si .i64 e/\z=cn p c d/\l=n+5,h,i,eJ (k:=0) j (by decide),t,⟨n,p,S,L,r,q,c,d,e,s,by omega,rq (by omega),kP j i h,w,x,y,f,λho=>⟨_,rfl,ho,rfl,rfl,rfl⟩⟩,λv o l ⟨e0,B,D,E⟩=>by subst B D E;exact g e0⟩
 ·exact a.elim
def IL(args:List AV)(H:AH)(n:Nat)(κ:PK):Prop:=match args with
 | [x]=>∃(b:Nat) (A C:List HP) (p:Nat×Nat) (S:Sr) (L:Smp),x=aA p/\b<n/\n<700000/\ia H 9 n=true/\H.get b=some (.sep (aE (A++cn p S L::C)))/\∀a,κ (aA a) (H.set (some (.sep (cn a S L))) aa (n+1)) (n+8)
 |_=>False
theorem Ei:al 58 IL:=λargs H n h e=>by
 unfold IL at e;split at e
 ·obtain⟨b,A,C,p,S,L,i,a,f,c,j,l⟩:=e;refine Ra.s2 _ H n h ⟨b,A,C,cn p S L,λv o m g=>∃d,v=aA d/\o= .sep (cn d S L)/\m=n+1/\g=n+8,a,f,eJ (k:=0) c (by decide),j,⟨n,p,S,L,i,by omega,rq (by omega),kP (x8 (by decide) c) f a,⟨by omega,me (by omega) a (eJ (k:=5) c (by decide)),me (by omega) a (eJ (k:=6) c (by decide)),me (by omega) a (eJ (k:=7) c (by decide)),me (by omega) a (eJ (k:=8) c (by decide))⟩,λd=>⟨_,n+1,by omega,by omega,rfl,d,rfl,rfl,rfl,rfl⟩⟩,λv o m g ⟨d,q,r,s,t⟩=>by subst q r s t;exact l d⟩
 ·exact e.elim
theorem SZ:al 24 (mY Q6):=WU.ql
theorem Xr:al 85 (mY UA):=WV.ql
theorem Xs:al 86 (mY UB):=WW.ql
theorem Xt:al 18 (mY UC):=WX.ql
theorem S1:al 21 (ya D3):=SQ.qm
theorem p8(x:Int):aR (IntKind.i64.wrap x):=by
 rw[IntKind.wrap_i64];unfold aR;omega
theorem ON(a b:Int):aR (Fp a b):=by
 unfold Fp jU;have:=p8 (a+b);split
 ·split<;>exact⟨by decide,by decide⟩
 ·exact this
theorem Rt{L:Smp}(h:∀x∈L,aR x.2):aR (oj L).n/\aR (oj L).sum/\aR (oj L).least/\aR (oj L).great/\aR (oj L).first/\aR (oj L).last:=by
 have main:∀(L:Smp) (s:SS),(∀x∈L,aR x.2)->(aR s.n/\aR s.sum/\aR s.least/\aR s.great/\aR s.first/\aR s.last)->(aR (L.foldl (λs x=>yA s x.2) s).n/\aR (L.foldl (λs x=>yA s x.2) s).sum/\aR (L.foldl (λs x=>yA s x.2) s).least/\aR (L.foldl (λs x=>yA s x.2) s).great/\aR (L.foldl (λs x=>yA s x.2) s).first/\aR (L.foldl (λs x=>yA s x.2) s).last):=λL=>by
  induction L with
  |nil=>exact λs _ h=>h
  |cons x L b=>
   intro s a ⟨e,f,g,i,j,k⟩;have l:=a x q0i;refine b (yA s x.2) (λy c=>a y (q0f _ c)) ?_;have w:=p8 (s.n+1);have d:=ON s.sum x.2;unfold aR at*;unfold yA;split<;>exact⟨w,d,by dsimp only;omega,by dsimp only;omega,by dsimp only;omega,by dsimp only;omega⟩
 have z:aR 0:=⟨by decide,by decide⟩;exact main L ss0 h ⟨z,z,z,z,z,z⟩
theorem K5{k:Int}{L:Smp}(h:∀x∈L,aR x.2):aR (AL k L):=by
 obtain⟨a,b,c,d,e,f⟩:=Rt h;have z:aR 0:=⟨by decide,by decide⟩;have w:=p8 ((oj L).great-(oj L).least);unfold AL PS G8
 repeat' split
 all_goals first|exact z|assumption|exact⟨by decide,by decide⟩
def bB(r:Rl)(t:Int):Int:=fX t r.size r.align
def eB(r:Rl)(t:Int):Int:=wH (bB r t) r.size r.align
theorem Ej{t s a:Int}:0<=wH t s a/\wH t s a<=2199023255552:=by
 have:=jz (t:=t) (s:=s) (a:=a);unfold wH;split
 ·rename_i h;simp only[tE,decide_eq_true_eq]at h;split<;>omega
 ·omega
def inB(r:Rl)(t:Int)(L:Smp):Smp:=bH (bB r t) (eB r t-1) L
def Ek(r:Rl)(t:Int)(S:Sr):Prop:=S.mx<0∨bB r S.mx<eB r t
instance (r:Rl)(t:Int)(S:Sr):Decidable (Ek r t S):=by unfold Ek;infer_instance
def gO(r:Rl)(t:Int)(s d:fK):Sr×Smp:=if Ek r t s.S then(d.S,d.L)else if PW r.kind (inB r t s.L)=true then(gY d.S d.L (bB r t) (AL r.kind (inB r t s.L)) 3).1 else(d.S,aO d.L (bB r t) (bB r t))
def cq(X:SpV)(r:Rl)(t:Int):SpV:=match X.K r.src,X.K r.dst with
 |some s,some d=>fO X r.dst {d with S:=(gO r t s d).1,L:=(gO r t s d).2}
 |_,_=>X
theorem BJ{X:SpV}{k:Tx}{e:fK}(h:X.K k=some e):fO X k e=X:=by
 unfold fO
 have:(λx=>if x=k then some e else X.K x)=X.K:=funext λx=>by
  by_cases q:x=k
  ·subst q;rw[if_pos rfl,h]
  ·rw[if_neg q]
 rw[this]
def Vh:DT:=[(1000002,[]),(1,[(some 1000000,[14,15,14,10,14,12,14,13,15,10,15,12,15,13,16,10,16,12,16,13]),(none,[0,1,2,3,4,5,6,7,8,9,11,10,12,13,14,15,16,17]),(none,[0,1,2,3,4,5,6,7,8,9,11,10,12,13,15,14,16,17]),(none,[0,1,2,3,4,5,6,7,8,9,11,10,12,14,13,15,16,17]),(none,[0,1,2,3,4,5,6,7,8,9,11,10,12,14,15,13,16,17]),(none,[0,1,2,3,4,5,6,7,8,9,11,10,12,14,15,16,13,17]),(none,[0,1,2,3,4,5,6,7,8,9,11,10,12,15,13,14,16,17]),(none,[0,1,2,3,4,5,6,7,8,9,11,10,12,15,14,13,16,17]),(none,[0,1,2,3,4,5,6,7,8,9,11,10,12,15,14,16,13,17]),(none,[0,1,2,3,4,5,6,7,8,9,11,10,14,12,13,15,16,17]),(none,[0,1,2,3,4,5,6,7,8,9,11,10,14,12,15,13,16,17]),(none,[0,1,2,3,4,5,6,7,8,9,11,10,14,12,15,16,13,17]),(none,[0,1,2,3,4,5,6,7,8,9,11,10,14,15,12,13,16,17]),(none,[0,1,2,3,4,5,6,7,8,9,11,10,14,15,12,16,13,17]),(none,[0,1,2,3,4,5,6,7,8,9,11,10,14,15,16,12,13,17]),(none,[0,1,2,3,4,5,6,7,8,9,11,10,15,12,13,14,16,17]),(none,[0,1,2,3,4,5,6,7,8,9,11,10,15,12,14,13,16,17]),(none,[0,1,2,3,4,5,6,7,8,9,11,10,15,12,14,16,13,17]),(none,[0,1,2,3,4,5,6,7,8,9,11,10,15,14,12,13,16,17]),(none,[0,1,2,3,4,5,6,7,8,9,11,10,15,14,12,16,13,17]),(none,[0,1,2,3,4,5,6,7,8,9,11,10,15,14,16,12,13,17]),(none,[0,1,2,3,4,5,6,7,8,9,11,12,14,10,13,15,16,17]),(none,[0,1,2,3,4,5,6,7,8,9,11,12,14,10,15,13,16,17]),(none,[0,1,2,3,4,5,6,7,8,9,11,12,14,10,15,16,13,17]),(none,[0,1,2,3,4,5,6,7,8,9,11,12,14,15,10,13,16,17]),(none,[0,1,2,3,4,5,6,7,8,9,11,12,14,15,10,16,13,17]),(none,[0,1,2,3,4,5,6,7,8,9,11,12,14,15,16,10,13,17]),(none,[0,1,2,3,4,5,6,7,8,9,11,12,15,10,13,14,16,17]),(none,[0,1,2,3,4,5,6,7,8,9,11,12,15,10,14,13,16,17]),(none,[0,1,2,3,4,5,6,7,8,9,11,12,15,10,14,16,13,17]),(none,[0,1,2,3,4,5,6,7,8,9,11,12,15,14,10,13,16,17]),(none,[0,1,2,3,4,5,6,7,8,9,11,12,15,14,10,16,13,17]),(none,[0,1,2,3,4,5,6,7,8,9,11,12,15,14,16,10,13,17]),(none,[0,1,2,3,4,5,6,7,8,9,11,14,10,12,13,15,16,17]),(none,[0,1,2,3,4,5,6,7,8,9,11,14,10,12,15,13,16,17]),(none,[0,1,2,3,4,5,6,7,8,9,11,14,10,12,15,16,13,17]),(none,[0,1,2,3,4,5,6,7,8,9,11,14,10,15,12,13,16,17]),(none,[0,1,2,3,4,5,6,7,8,9,11,14,10,15,12,16,13,17]),(none,[0,1,2,3,4,5,6,7,8,9,11,14,10,15,16,12,13,17]),(none,[0,1,2,3,4,5,6,7,8,9,11,14,12,15,10,13,16,17]),(none,[0,1,2,3,4,5,6,7,8,9,11,14,12,15,10,16,13,17]),(none,[0,1,2,3,4,5,6,7,8,9,11,14,12,15,16,10,13,17]),(none,[0,1,2,3,4,5,6,7,8,9,11,14,15,10,12,13,16,17]),(none,[0,1,2,3,4,5,6,7,8,9,11,14,15,10,12,16,13,17]),(none,[0,1,2,3,4,5,6,7,8,9,11,14,15,10,16,12,13,17]),(none,[0,1,2,3,4,5,6,7,8,9,11,14,15,12,16,10,13,17]),(none,[0,1,2,3,4,5,6,7,8,9,11,14,15,16,10,12,13,17]),(none,[0,1,2,3,4,5,6,7,8,9,11,15,10,12,13,14,16,17]),(none,[0,1,2,3,4,5,6,7,8,9,11,15,10,12,14,13,16,17]),(none,[0,1,2,3,4,5,6,7,8,9,11,15,10,12,14,16,13,17]),(none,[0,1,2,3,4,5,6,7,8,9,11,15,10,14,12,13,16,17]),(none,[0,1,2,3,4,5,6,7,8,9,11,15,10,14,12,16,13,17]),(none,[0,1,2,3,4,5,6,7,8,9,11,15,10,14,16,12,13,17]),(none,[0,1,2,3,4,5,6,7,8,9,11,15,12,14,10,13,16,17]),(none,[0,1,2,3,4,5,6,7,8,9,11,15,12,14,10,16,13,17]),(none,[0,1,2,3,4,5,6,7,8,9,11,15,12,14,16,10,13,17]),(none,[0,1,2,3,4,5,6,7,8,9,11,15,14,10,12,13,16,17]),(none,[0,1,2,3,4,5,6,7,8,9,11,15,14,10,12,16,13,17]),(none,[0,1,2,3,4,5,6,7,8,9,11,15,14,10,16,12,13,17]),(none,[0,1,2,3,4,5,6,7,8,9,11,15,14,12,16,10,13,17]),(none,[0,1,2,3,4,5,6,7,8,9,11,15,14,16,10,12,13,17])]),
 (4,[(some 0,[6]),(some 0,[38]),(none,[39]),(some 0,[40]),(some 0,[41]),(some 0,[9,42]),(some 0,[6,42]),(some 0,[44,42]),(none,[45,42]),(some 1,[4,42]),(some 2,[47,42]),(some 3,[4,42]),(some 4,[49,42]),(none,[46,48,50,42]),(some 0,[43,51,42])]),
 (5,[(some 0,[4]),(some 0,[55]),(some 0,[6]),(some 0,[57]),(some 0,[8]),(some 0,[9]),(some 0,[60]),(none,[58,59,61]),(none,[56,62]),(some 0,[63]),(some 0,[54]),(some 0,[54]),(some 0,[64])])]
def KBk:FuncId->EP:=aX 75 Vh (da 24 (mY Q6) (da 21 (ya D3) (da 54 (wE fX) (da 55 (wE wH) (da 56 (zf 9223372036854775807 uC) (ao 72 IK (ao 100 zT evP)))))))
theorem Vi:aS KBk:=au (bf (bf (bf (bf (bf (ab (ab az BI) OL) Tu Tq) Su CV) AK CV) S1 (Vf _)) SZ (BH _)) (by kernel_rfl) (by kernel_rfl)
def bkJ (c:SpC) (r:Rl) (t:Int) (p1:Nat×Nat) (z1:Int) (p2:Nat×Nat) (z2:Int):AE×AH:=(mkE [(0,.ptr 0 (0)),(2,.si .i64 (t)),(4,.ptr 5 (0)),(6,.ptr 6 (0)),(7,.ptr 7 (0))],mkH [(0,.cells [.map 1,aA c.px,aA c.pg] true),(1,c.m.O kT gE),(2,.sep (IxB.Q c.x c.px)),(3,.sep (GrB.Q c.g c.pg)),(4,.sep (aE (aH c.m.A))),(5,.cells (ruC r) true),(6,.cells ([aA p1,.si .i64 z1]) true),(7,.cells ([aA p2,.si .i64 z2]) true)])
theorem IM{c:SpC}{r:Rl}{t:Int}{p1:Nat×Nat}{z1:Int}{p2:Nat×Nat}{z2:Int}{p n:Nat}{σ:AE}{H:AH}(a:Nat)(d:Nat)(F:a≠0/\a≠1/\a≠2/\a≠3/\a≠4/\a≠5/\a≠d/\d≠0/\d≠1/\d≠2/\d≠3/\d≠4/\d≠5)(G:p<=6)(e0:ai (pa 0) σ= .ptr 0 (0))(j:mk (ai (pa 2) σ)= .si .i64 (t))(o:ai (pa 4) σ= .ptr 5 (0))(q:ai (pa 6) σ= .ptr a (0))(s:ai (pa 7) σ= .ptr d (0))(u:H.get 0=some (.cells [.map 1,aA c.px,aA c.pg] true))(v:H.get 1=some (c.m.O kT gE))(w:H.get 2=some (.sep (IxB.Q c.x c.px)))(z:H.get 3=some (.sep (GrB.Q c.g c.pg)))(B:H.get 4=some (.sep (aE (aH c.m.A))))(C:H.get 5=some (.cells (ruC r) true))(D:∃l,H.get a=some (.cells l true)/\mM H 8 (λb=>if b=6 then a else if b=7 then d else b) l ([aA p1,.si .i64 z1]))(E:∃l,H.get d=some (.cells l true)/\mM H 8 (λb=>if b=6 then a else if b=7 then d else b) l ([aA p2,.si .i64 z2])):Cov p σ H n ((bkJ c r t p1 z1 p2 z2).1,(bkJ c r t p1 z1 p2 z2).2,8):=
 Cov.ofB (λb=>if b=6 then a else if b=7 then d else b) (by omega) (λb e=>by repeat' rw[if_neg (by omega)]) ⟨.ptr (by decide) e0,.int j,.ptr (by decide) o,.ptr (by decide) q,.ptr (by decide) s,trivial⟩ ⟨.inl ⟨_,u,ak.bz (k:=2) rfl (by decide) (λb e=>by rw[if_neg (by omega),if_neg (by omega)])⟩,.inl ⟨_,v,ak.bz (k:=0) (aC bK iG) (by decide) (λb e=>absurd e (q0o b))⟩,.inl ⟨_,w,ak.sep _⟩,.inl ⟨_,z,ak.sep _⟩,.inl ⟨_,B,ak.sep _⟩,.inl ⟨_,C,ak.bz (k:=0) rfl (by decide) (λb e=>absurd e (q0o b))⟩,.inl (D.elim λl h=>⟨_,h.1,ak.st h.2⟩),.inl (E.elim λl h=>⟨_,h.1,ak.st h.2⟩),trivial⟩ rfl (λx f y i=>by simp only[Z5,Z4,or_false]at f i;rcases f with rfl|rfl|rfl|rfl|rfl|rfl|rfl|rfl<;>rcases i with rfl|rfl|rfl|rfl|rfl|rfl|rfl|rfl<;>simp<;>omega)
theorem OO(X:SpV)(r:Rl)(t:Int)(c:SpC)(i:bA X c){s d:fK}(j:X.K r.src=some s)(hd:X.K r.dst=some d)(ls:s.L.length<=30000)(R:d.L.length<=30000):ax KBk 6 75 [.ptr 0 0,gR r,.si .i64 t] (mkH (bE (spO c) 0)) 5 (gm SpB (cq X r t) (.tup [])):=by
 obtain⟨h,p,u,N,T,U,v⟩:=i.at1 j;obtain⟨b,F,G,w,H,I,J⟩:=i.at1 hd
 conv=>whnf
 refine qq.mk Unit 8 (λ_=>bkJ c r t h s.z b d.z) ?_ ?_
 focus
  conv=>whnf
  refine⟨?_,?_,?_,?_,?_,?_,?_,?_,?_,?_,?_,?_,?_,?_,?_,?_,?_,?_,?_,?_,?_,?_,?_,?_,?_,?_,?_,?_,?_,?_,?_,?_,?_,?_,?_,?_,?_,?_,?_,?_,?_,?_,?_,?_,?_,?_,?_,?_,?_,?_,?_,?_,?_,?_,?_,?_,?_,?_,?_,?_,trivial⟩
  all_goals
   conv=>whnf
   refine Ask.mk _ (bb (m:=c.m) (g:=gE) (k:=r.src) bP nV rfl rfl rfl qe N) ?_
   conv=>whnf
   refine Ask.mk _ (bb (m:=c.m) (g:=gE) (k:=r.dst) bP nV rfl rfl rfl qe w) ?_
   conv=>whnf
   first
    |exact⟨(),IM (c:=c) (r:=r) (t:=t) (p1:=h) (z1:=s.z) (p2:=b) (z2:=d.z) 6 7 (by decide) (by decide) rfl rfl rfl rfl rfl rfl rfl rfl rfl rfl rfl ⟨_,rfl,.cons (.aA rfl) (.cons (.int rfl) .nil)⟩ ⟨_,rfl,.cons (.aA rfl) (.cons (.int rfl) .nil)⟩⟩
    |exact⟨(),IM (c:=c) (r:=r) (t:=t) (p1:=h) (z1:=s.z) (p2:=b) (z2:=d.z) 7 6 (by decide) (by decide) rfl rfl rfl rfl rfl rfl rfl rfl rfl rfl rfl ⟨_,rfl,.cons (.aA rfl) (.cons (.int rfl) .nil)⟩ ⟨_,rfl,.cons (.aA rfl) (.cons (.int rfl) .nil)⟩⟩
 intro _;have V:=jz (t:=t) (s:=r.size) (a:=r.align);have W:=Ej (t:=bB r t) (s:=r.size) (a:=r.align);have O:IntKind.i64.wrap (eB r t-1)=eB r t-1:=aj (by unfold eB;omega) (by unfold eB;omega)
 have e0:Ek r t s.S->cq X r t=X:=λq=>by
  unfold cq;rw[j,hd];show fO X r.dst {d with S:=(gO r t s d).1,L:=(gO r t s d).2}=X;unfold gO;rw[if_pos q];exact BJ hd
 conv=>whnf
 refine⟨4,aH p,aH u,h,s.S,s.L,_,rfl,by decide,by decide,rfl,congrArg (λx=>some (AO.sep (aE x))) v,⟨rfl,rfl⟩,?_⟩
 conv=>whnf
 refine ag.dec (λl=>?_) (λl=>?_)
 focus
  have e:=e0 (.inl l);rw[e]
  conv=>whnf
  exact⟨_,c,.told rfl,i,bQ rfl rfl rfl rfl rfl⟩
 conv=>whnf
 refine⟨4,aH p,aH u,h,s.S,s.L,_,rfl,by decide,by decide,rfl,congrArg (λx=>some (AO.sep (aE x))) v,⟨rfl,rfl⟩,?_⟩
 conv=>whnf
 refine ag.dec (λz2=>?_) (λz2=>?_)
 focus
  have e:=e0 (.inr z2);rw[e]
  conv=>whnf
  exact⟨_,c,.told rfl,i,bQ rfl rfl rfl rfl rfl⟩
 have n:¬Ek r t s.S:=λq=>q.elim l z2
 conv=>whnf
 refine⟨4,aH p,aH u,h,s.S,s.L,inB r t s.L,rfl,by decide,by decide,rfl,congrArg (λx=>some (AO.sep (aE x))) v,⟨_,_,bB r t,eB r t-1,rfl,rfl,congrArg (AV.si .i64) O,rfl⟩,?_⟩
 conv=>whnf
 refine⟨inB r t s.L,mG.YD rfl rfl,q0d (q1h _ _) (by omega),?_⟩
 conv=>whnf
 refine ag.nsb (λy=>?_) (λy=>?_)
 focus
  obtain⟨f,o⟩:∃f,f=aO d.L (bB r t) (bB r t):=⟨_,rfl⟩
  conv=>whnf
  refine⟨4,aH F,aH G,b,d.S,d.L,bB r t,bB r t,f,_,rfl,by decide,by decide,rfl,congrArg (λx=>some (AO.sep (aE x))) J,rfl,rfl,by omega,o.symm,rfl,λho=>?_⟩;obtain⟨A,B,C⟩:=i.x9 hd w H I ho
  have e:cq X r t=fO X r.dst {d with S:=d.S,L:=f}:=by
   unfold cq;rw[j,hd];show fO X r.dst {d with S:=(gO r t s d).1,L:=(gO r t s d).2}=_;unfold gO;rw[if_neg n,if_neg (by rw[y];simp),o]
  rw[e]
  conv=>whnf
  exact⟨_,{c with m:=c.m.put r.dst ⟨b,d.S,f,d.z⟩},.told rfl,A,bQ rfl (congrArg some B.symm) rfl rfl (congrArg (λx=>some (AO.sep (aE x))) C.symm)⟩
 obtain⟨Y,M⟩:∃Y,Y=gY d.S d.L (bB r t) (AL r.kind (inB r t s.L)) 3:=⟨_,rfl⟩;obtain⟨⟨D,f⟩,e⟩:=Y;have E:aR (AL r.kind (inB r t s.L)):=K5 λx P=>((i.ser _ _ j).eE x (q1d.1 P).1).2
 conv=>whnf
 refine⟨4,aH F,aH G,b,d.S,d.L,bB r t,AL r.kind (inB r t s.L),3,D,f,e,rfl,by decide,by decide,rfl,congrArg (λx=>some (AO.sep (aE x))) J,⟨_,_,rfl,rfl,rfl⟩,rfl,E,by omega,M.symm,λho=>?_⟩;obtain⟨A,B,C⟩:=i.x9 hd w H I ho
 have Q:cq X r t=fO X r.dst {d with S:=D,L:=f}:=by
  unfold cq;rw[j,hd];show fO X r.dst {d with S:=(gO r t s d).1,L:=(gO r t s d).2}=_;unfold gO;rw[if_neg n,if_pos y,<-M]
 rw[Q]
 conv=>whnf
 exact⟨_,{c with m:=c.m.put r.dst ⟨b,D,f,d.z⟩},.told rfl,A,bQ rfl (congrArg some B.symm) rfl rfl (congrArg (λx=>some (AO.sep (aE x))) C.symm)⟩
def Vj(X:SpV)(cs:List AV)(a:SpV)(v:AV):Prop:=∃r t s d,cs=[gR r,.si .i64 t]/\X.K r.src=some s/\X.K r.dst=some d/\s.L.length<=30000/\d.L.length<=30000/\a=cq X r t/\v= .tup []
theorem OP:al 75 (gM 5 SpB Vj):=uL (ay Vi 6 _) (by kernel_rfl) SpB rfl (by decide) λX cs k v ⟨r,t,s,d,a,b,e,f,g,h,i⟩=>by
 subst a h i;exact⟨rfl,rfl,λc j=>OO X r t c j b e f g⟩
end Go.Proofs.YtflehenfikoniaaGreat
namespace Go.Proofs.YtflehenfikoniaaGreat
open Go Go.RowKit
section
variable {V:Type}
theorem pC{A:List (Tx×V)}(h:(A.map Prod.fst).Nodup){k:Tx}{v:V}:(k,v)∈A<->aD A k=some v:=⟨cV h,bJ⟩
open Classical in
def uW (f:Tx->Option V):List (Tx×V):=if h:∃A:List (Tx×V),(A.map Prod.fst).Nodup/\∀k,aD A k=f k then h.choose else []
theorem mZ{f:Tx->Option V}{A:List (Tx×V)}(a:(A.map Prod.fst).Nodup)(b:∀k,aD A k=f k):((uW f).map Prod.fst).Nodup/\∀k,aD (uW f) k=f k:=by
 have h:∃A:List (Tx×V),(A.map Prod.fst).Nodup/\∀k,aD A k=f k:=⟨A,a,b⟩;unfold uW;rw[dif_pos h];exact h.choose_spec
end
theorem yb{A B:List Tx}(h:∀x,x∈A<->x∈B):aK A=aK B:=ri (ba A).1 (ba B).1 λx=>by rw[(ba A).2,(ba B).2];exact h x
theorem BK{A B:Gr}(b:(A.map Prod.fst).Nodup)(c:(B.map Prod.fst).Nodup)(h:∀k,aD A k=aD B k)(so:Rl->Bool):pkF A so=pkF B so:=by
 have a:∀e:Tx×Rl,e∈A<->e∈B:=λe=>by
  obtain⟨k,v⟩:=e;rw[pC b,pC c,h]
 have f:aK ((A.filter λe=>so e.2).map Prod.fst)=aK ((B.filter λe=>so e.2).map Prod.fst):=yb λx=>by
  simp only[q0p,q1d,a]
 have g:aK ((A.filter λe=>so e.2).map λe=>e.2.src)=aK ((B.filter λe=>so e.2).map λe=>e.2.src):=yb λx=>by
  simp only[q0p,q1d,a]
 have i:∀d,rul A d=rul B d:=λd=>by unfold rul;rw[h]
 unfold pkF;rw[f,g];congr 1;funext s;unfold pkS;have:rul A=rul B:=funext i;rw[this]
theorem El{a:Type}(p:a->Bool):∀N:List a,(N.filter p).length+(N.filter λd=>!p d).length=N.length
 | []=>rfl
 |d::N=>by
  have b:=El p N;cases h:p d<;>simp[h]<;>omega
theorem zU{i c:Type} [DecidableEq c](f:i->c):∀(S:List c) (N:List i),S.Nodup->(S.flatMap λs=>N.filter λd=>decide (f d=s)).length<=N.length
 | [],N,_=>by simp
 |s::S,N,h=>by
  have j:=q3d.1 h;have k:=zU f S (N.filter λd=>!decide (f d=s)) j.2
  have e:(S.flatMap λa=>N.filter λd=>decide (f d=a))=S.flatMap λa=>(N.filter λd=>!decide (f d=s)).filter λd=>decide (f d=a):=by
   have:∀b:List c,(∀x∈b,x≠s)->(b.flatMap λa=>N.filter λd=>decide (f d=a))=b.flatMap λa=>(N.filter λd=>!decide (f d=s)).filter λd=>decide (f d=a):=λb=>by
    induction b with
    |nil=>intro _;rfl
    |cons x b k=>
     intro g;rw[q4q,q4q,k λy m=>g y (q0f _ m)];congr 1;rw[List.filter_filter];refine List.filter_congr λd _=>?_
     have:=g x q0i;by_cases q:f d=x
     ·have n:¬f d=s:=λe=>this (q.symm.trans e)
      simp[q,this]
     ·simp[q]
   exact this S λx g e=>j.1 (e▸g)
  rw[q4q,Z6,e];have l:=El (λd=>decide (f d=s)) N;omega
theorem tZ{L:List Tx}(h:UpT L):L.Nodup:=h.imp λ{a b} q e=>by
 subst e;rw[ie]at q;cases q
theorem vp(R:Gr)(so:Rl->Bool):(pkF R so).length<=R.length:=by
 have b:=zU (λd=>(rul R d).src) (aK ((R.filter λe=>so e.2).map λe=>e.2.src)) (aK ((R.filter λe=>so e.2).map Prod.fst)) (tZ (ba _).1);have a:=cw ((R.filter λe=>so e.2).map Prod.fst);rw[q0g]at a;have c:=kG (p:=λe:Tx×Rl=>so e.2) R
 have e:(pkF R so).length=((aK ((R.filter λe=>so e.2).map λe=>e.2.src)).flatMap λs=>(aK ((R.filter λe=>so e.2).map Prod.fst)).filter λd=>decide ((rul R d).src=s)).length:=by
  unfold pkF pkS;rw[List.length_flatMap,List.length_flatMap];congr 1;refine q3i λs _=>?_
  rw[q0g]
 omega
section
variable {V:Type}
def mpA(A:List (Tx×V)):MpC Tx V:=⟨A,List.range A.length,A.length⟩
theorem BL{A:List (Tx×V)}(h:(A.map Prod.fst).Nodup):(mpA A).Ok:=⟨List.length_range,List.nodup_range,λx a=>q2u.1 a,h⟩
theorem p9{A:List (Tx×V)}(h:(A.map Prod.fst).Nodup)(k x:Tx):aD (dq A k) x=if x=k then none else aD A x:=by
 have:=Ee (BL h) k x;rw[xP]at this;exact this
theorem m5{A:List (Tx×V)}(h:(A.map Prod.fst).Nodup)(k:Tx)(v:V)(x:Tx):aD (eg A k v) x=if x=k then some v else aD A x:=by
 have:=xM (BL h) k v x;rw[Ef]at this;exact this
theorem sU{A:List (Tx×V)}(h:(A.map Prod.fst).Nodup)(k:Tx):((dq A k).map Prod.fst).Nodup:=by
 have:=((BL h).del k).key;rw[xP]at this;exact this
theorem sV{A:List (Tx×V)}(h:(A.map Prod.fst).Nodup)(k:Tx)(v:V):((eg A k v).map Prod.fst).Nodup:=by
 have:=((BL h).put k v).key;rw[Ef]at this;exact this
theorem pD(A:List (Tx×V))(k:Tx):(dq A k).length<=A.length:=by
 unfold dq;split
 ·exact Z3 _
 ·exact List.length_eraseIdx_le _ _
theorem sW(A:List (Tx×V))(k:Tx)(v:V):(eg A k v).length<=A.length+1:=by
 unfold eg;split
 ·simp
 ·rw[List.length_set];omega
end
theorem zV:∀{L:List Rl} {A:Gr},(A.map Prod.fst).Nodup->((lC A L).map Prod.fst).Nodup/\(lC A L).length<=A.length/\∀d,aD (lC A L) d=if d∈L.map Rl.dst then none else aD A d
 | [],A,h=>⟨h,Z3 _,λd=>by simp[lC]⟩
 |r::L,A,h=>by
  obtain⟨a,b,c⟩:=zV (L:=L) (sU h r.dst);refine⟨a,q0d b (pD _ _),λd=>?_⟩;show aD (lC (dq A r.dst) L) d=_;rw[c,p9 h];simp only[q1y,Z5];by_cases q:d∈L.map Rl.dst
  ·simp[q]
  ·by_cases e:d=r.dst<;>simp[q,e]
theorem K6{x:Gr}(h:(x.map Prod.fst).Nodup)(hd:∀e∈x,e.2.dst=e.1)(k:Tx):((uM x k).map Prod.fst).Nodup/\(uM x k).length<=x.length/\∀d,aD (uM x k) d=match aD x d with
 |some r=>if pw k r=true then none else some r
 |none=>none:=by
 obtain⟨c,f,g⟩:=zV (L:=pkF x (pw k)) h;refine⟨c,f,λd=>?_⟩;unfold uM;rw[g];cases e:aD x d with
 |none=>simp
 |some r=>
  have hm:=bJ e;have a:r.dst=d:=hd _ hm
  have:d∈(pkF x (pw k)).map Rl.dst<->pw k r=true:=by
   rw[q0p];constructor
   ·rintro⟨i,j,l⟩;obtain⟨b,m⟩:=(p7 h hd i).1 j;rw[l]at b;have:=cV h b;rw[e]at this;injection this with this;subst this;exact m
   ·intro q;exact⟨r,(p7 h hd r).2 ⟨by rw[a];exact hm,q⟩,a⟩
  (try simp only[this])
theorem Em{x:Gr}:∀{L:List Rl} {A:Gr},(A.map Prod.fst).Nodup->(∀r∈L,aD x r.dst=some r)->(∀d v,aD A d=some v->aD x d=some v)->(((L.foldl (λA r=>eg A r.dst r) A)).map Prod.fst).Nodup/\(L.foldl (λA r=>eg A r.dst r) A).length<=A.length+L.length/\(∀d v,aD (L.foldl (λA r=>eg A r.dst r) A) d=some v->aD x d=some v)/\(∀d v,aD A d=some v->aD (L.foldl (λA r=>eg A r.dst r) A) d=some v)/\∀r∈L,aD (L.foldl (λA r=>eg A r.dst r) A) r.dst=some r
 | [],A,h,_,b=>⟨h,Z3 _,b,λ_ _ h=>h,λr hr=>(by cases hr)⟩
 |r::L,A,h,e,b=>by
  have hr:=e r q0i;have c:=m5 h r.dst r
  obtain⟨g,k,i,f,j⟩:=Em (L:=L) (A:=eg A r.dst r) (sV h _ _) (λq a=>e q (q0f _ a)) (λd v hd=>by
   rw[c]at hd;by_cases q:d=r.dst
   ·rw[if_pos q]at hd;injection hd with hd;subst hd q;exact hr
   ·rw[if_neg q]at hd;exact b d v hd)
  refine⟨g,?_,i,λd v hd=>f d v ?_,λq a=>?_⟩
  ·have:=sW A r.dst r;show(L.foldl _ (eg A r.dst r)).length<=_;rw[q0a];omega
  ·rw[c];by_cases q:d=r.dst
   ·subst q;have:=b _ _ hd;rw[hr]at this;rw[if_pos rfl];exact this
   ·rw[if_neg q];exact hd
  ·rcases Z5.1 a with rfl|a
   ·exact f _ _ (by rw[c,if_pos rfl])
   ·exact j q a
theorem K7{x:Gr}(h:(x.map Prod.fst).Nodup)(hd:∀e∈x,e.2.dst=e.1):((mX x).map Prod.fst).Nodup/\(mX x).length<=x.length/\∀d,aD (mX x) d=aD x d:=by
 have a:∀r,r∈uV x<->(r.dst,r)∈x/\true=true:=λr=>p7 h hd r
 obtain⟨f,g,i,_,j⟩:=Em (x:=x) (L:=uV x) (A:=[]) (by simp) (λr k=>cV h ((a r).1 k).1) (λd v q=>by cases q);refine⟨f,q0d g (by simp only[q1r,q1g];exact vp _ _),λd=>?_⟩;show aD (pA (uV x)) d=_;cases e:aD x d with
 |none=>
  cases l:aD (pA (uV x)) d with
  |none=>rfl
  |some v=>have:=i d v l;rw[e]at this;cases this
 |some r=>
  have b:=bJ e;have c:r.dst=d:=hd _ b;have:=j r ((a r).2 ⟨by rw[c];exact b,rfl⟩);rw[c]at this;exact this
end Go.Proofs.YtflehenfikoniaaGreat
namespace Go.Proofs.YtflehenfikoniaaGreat
open Go Go.RowKit
def ofX (X:SpV) (k:Tx):List Rl:=ofG (uW X.R) k
def yc (X:SpV):List Rl:=uV (uW X.R)
section
variable {X:SpV} {c:SpC}
theorem bA.Ru(h:bA X c):((uW X.R).map Prod.fst).Nodup/\∀k,aD (uW X.R) k=X.R k:=mZ h.gk h.R
theorem bA.of(h:bA X c)(k:Tx):ofG c.g k=ofX X k:=BK h.gk h.Ru.1 (λd=>by rw[h.R,h.Ru.2]) _
theorem bA.all(h:bA X c):uV c.g=yc X:=BK h.gk h.Ru.1 (λd=>by rw[h.R,h.Ru.2]) _
theorem bA.S2(h:bA X c){d:Tx}{r:Rl}(a:X.R d=some r):r.dst=d:=h.dst (d,r) (bJ (by rw[h.R];exact a))
theorem bA.yd(h:bA X c){k:Tx}{r:Rl}:r∈ofX X k<->X.R r.dst=some r/\r.src=k:=by
 rw[<-h.of];show r∈pkF c.g _<->_;rw[p7 h.gk h.dst,pC h.gk,h.R,decide_eq_true_eq]
theorem bA.IN(h:bA X c){r:Rl}:r∈yc X<->X.R r.dst=some r:=by
 rw[<-h.all];show r∈pkF c.g _<->_;rw[p7 h.gk h.dst,pC h.gk,h.R];simp
theorem bA.OQ(h:bA X c)(k:Tx):(ofX X k).length<=1000:=by
 rw[<-h.of];have a:=vp c.g λr=>decide (r.src=k)
 have b:=h.gl;have d:=h.n9;show(pkF c.g _).length<=1000;omega
end
section
variable {X:SpV} {r:Rl} {t:Int} {k:Tx}
theorem fC(X:SpV)(k:Tx)(e:fK)(x:Tx):(fO X k e).K x=if x=k then some e else X.K x:=rfl
theorem iY:(cq X r t).R=X.R/\(cq X r t).n=X.n:=by unfold cq;split<;>exact⟨rfl,rfl⟩
theorem pE(h:k≠r.dst):(cq X r t).K k=X.K k:=by
 unfold cq;split
 ·rw[fC,if_neg h]
 ·rfl
theorem js:((cq X r t).K k).isSome=(X.K k).isSome:=by
 unfold cq;split
 ·rename_i s d b a;rw[fC];split
  ·rename_i q;rw[q,a];rfl
  ·rfl
 ·rfl
def Bnd(X:SpV)(b:Nat):Prop:=∀k e,X.K k=some e->e.L.length<=b
theorem m6{b:Nat}(h:Bnd X b):Bnd (cq X r t) (b+1):=λk e a=>by
 unfold cq at a;split at a
 ·rename_i s d g f;rw[fC]at a;split at a
  ·injection a with a;subst a;have hb:=h _ _ f;show(gO r t s d).2.length<=b+1;unfold gO;split
   ·exact Nat.le_succ_of_le hb
   ·split
    ·exact q0d (sD _ _ _ _ _) (by omega)
    ·exact q0d (q1h _ _) (by omega)
  ·exact Nat.le_succ_of_le (h k e a)
 ·exact Nat.le_succ_of_le (h k e a)
end
def mxK(X:SpV)(k:Tx):Int:=match X.K k with
 |some e=>e.S.mx
 |none=> -1
def dN(k:Tx)(was t:Int)(X:SpV)(r:Rl):SpV:=cq (if 0<=was/\was<mxK X k then cq X r was else X) r t
def OS(X:SpV)(k:Tx)(e:fK)(t v p:Int):SpV:=fO X k {e with S:=(gY e.S e.L t v p).1.1,L:=(gY e.S e.L t v p).1.2}
def jY (X:SpV) (k:Tx) (t v p:Int):SpV×Int:=if dD X k≠0 then(X,dD X k)else match X.K k with
 |none=>(X,5)
 |some e=>if(gY e.S e.L t v p).2≠0 then(X,(gY e.S e.L t v p).2)else((ofX X k).foldl (dN k e.S.mx t) (OS X k e t v p),0)
def Links(X:SpV):Prop:=∀d r,X.R d=some r->(X.K r.src).isSome=true/\(X.K d).isSome=true
section
variable {X:SpV} {k:Tx} {was t:Int} {r:Rl}
theorem En(h:k≠r.dst){b:Nat}(a:Bnd X b):(dN k was t X r).R=X.R/\(dN k was t X r).n=X.n/\(∀x,((dN k was t X r).K x).isSome=(X.K x).isSome)/\(dN k was t X r).K k=X.K k/\Bnd (dN k was t X r) (b+2):=by
 unfold dN;split
 ·exact⟨iY.1.trans iY.1,iY.2.trans iY.2,λx=>js.trans js,(pE h).trans (pE h),m6 (m6 a)⟩
 ·exact⟨iY.1,iY.2,λx=>js,pE h,λx e c=>Nat.le_succ_of_le (m6 a x e c)⟩
theorem uN{k:Tx}{was t:Int}:∀(L:List Rl) {X:SpV} {b:Nat},(∀r∈L,k≠r.dst)->Bnd X b->(L.foldl (dN k was t) X).R=X.R/\(L.foldl (dN k was t) X).n=X.n/\(∀x,((L.foldl (dN k was t) X).K x).isSome=(X.K x).isSome)/\(L.foldl (dN k was t) X).K k=X.K k/\Bnd (L.foldl (dN k was t) X) (b+2*L.length)
 | [],X,b,_,a=>⟨rfl,rfl,λ_=>rfl,rfl,a⟩
 |r::L,X,b,h,a=>by
  obtain⟨c,d,e,f,g⟩:=En (k:=k) (was:=was) (t:=t) (h r q0i) a;obtain⟨i,j,l,m,o⟩:=uN L (λq p=>h q (q0f _ p)) g;refine⟨i.trans c,j.trans d,λx=>(l x).trans (e x),m.trans f,?_⟩;rw[q0a,show b+2*(L.length+1)=b+2+2*L.length by omega];exact o
end
theorem qa{r:Rl}(h:cU r=true):r.src≠r.dst:=by
 unfold cU at h;simp only[Z8,q3h,decide_eq_false_iff_not]at h;exact h.2.2.2.1
theorem OT{S S':Sr}{L a:Smp}{t v p e:Int}(h:gY S L t v p=((S',a),e))(b:e≠0):S'=S/\a=L:=by
 unfold gY at h
 repeat' split at h
 all_goals(injection h with h1 h2;injection h1 with c d;first|exact⟨c.symm,d.symm⟩|exact absurd h2.symm b)
def Rv:DT:=[(1000005,[]),(4,[(some 1000000,[7,8]),(none,[0,1,2,3,4,5,6,7,8,9]),(none,[0,1,2,3,4,5,6,8,7,9])]),(5,[(some 0,[4]),(some 0,[26]),(some 0,[27]),(some 0,[28]),(some 0,[5]),(some 0,[29,30]),(some 0,[31]),(some 0,[6]),(some 0,[3])])]
def OU:DT:=[(1,[(some 0,[1]),(some 0,[6]),(some 0,[7]),(some 0,[1,8]),(some 0,[2,8]),(some 0,[10,8]),(some 0,[11,8]),(some 0,[12,8]),(some 0,[3,8]),(some 0,[13,14,8]),(some 0,[15,8]),(none,[16,8]),(some 0,[9,17,8])])]
def Xu:FuncId->EP:=aX 73 [] (da 24 (mY Q6) (ao 133 (dM 2 GrB OA) (ao 75 (gM 5 SpB Vj) (ao 61 (gM 5 SpB Rs) (ao 72 IK (ao 100 zT evP))))))
theorem Rw:aS Xu:=au (bf (ab (ab (ab (ab (ab az BI) OL) BG) OP) OB) SZ (BH _)) (by kernel_rfl) (by kernel_rfl)
def Vk:FuncId->EP:=aX 32 Rv (aX 74 OU Xu)
theorem IP:aS Vk:=au (au Rw (by kernel_rfl) (by kernel_rfl)) (by kernel_rfl) (by kernel_rfl)
def adJ (c:SpC) (k:Tx) (t:Int) (v:Int) (q:Int) (was:Int):AE×AH:=(mkE [(3,.si .i64 (q)),(4,.ptr 5 (0)),(5,.ptr 6 (0)),(6,.ptr 7 (0)),(10,.ptr 8 (0))],mkH [(0,.cells [.map 1,aA c.px,aA c.pg] true),(1,c.m.O kT gE),(2,.sep (IxB.Q c.x c.px)),(3,.sep (GrB.Q c.g c.pg)),(4,.sep (aE (aH c.m.A))),(5,.cells [.ptr 0 0] true),(6,.cells [.ss k] true),(7,.cells [.si .i64 t,.si .i64 v] true),(8,.cells ([.si .i64 was]) true)])
theorem IQ{c:SpC}{k:Tx}{t:Int}{v:Int}{q:Int}{was:Int}{p n:Nat}{σ:AE}{H:AH}(a:Nat)(J:a≠0/\a≠1/\a≠2/\a≠3/\a≠4/\a≠5/\a≠6/\a≠7)(K:p<=8)(j:mk (ai (pa 3) σ)= .si .i64 (q))(o:ai (pa 4) σ= .ptr 5 (0))(s:ai (pa 5) σ= .ptr 6 (0))(u:ai (pa 6) σ= .ptr 7 (0))(e:ai (pa 10) σ= .ptr a (0))(w:H.get 0=some (.cells [.map 1,aA c.px,aA c.pg] true))(z:H.get 1=some (c.m.O kT gE))(B:H.get 2=some (.sep (IxB.Q c.x c.px)))(C:H.get 3=some (.sep (GrB.Q c.g c.pg)))(D:H.get 4=some (.sep (aE (aH c.m.A))))(E:H.get 5=some (.cells [.ptr 0 0] true))(F:H.get 6=some (.cells [.ss k] true))(G:H.get 7=some (.cells [.si .i64 t,.si .i64 v] true))(I:∃l,H.get a=some (.cells l true)/\mM H 9 (λb=>if b=8 then a else b) l ([.si .i64 was])):Cov p σ H n ((adJ c k t v q was).1,(adJ c k t v q was).2,9):=
 Cov.ofB (λb=>if b=8 then a else b) (by omega) (λb d=>by repeat' rw[if_neg (by omega)]) ⟨.int j,.ptr (by decide) o,.ptr (by decide) s,.ptr (by decide) u,.ptr (by decide) e,trivial⟩ ⟨.inl ⟨_,w,ak.bz (k:=2) rfl (by decide) (λb d=>by rw[if_neg (by omega)])⟩,.inl ⟨_,z,ak.bz (k:=0) (aC bK iG) (by decide) (λb d=>absurd d (q0o b))⟩,.inl ⟨_,B,ak.sep _⟩,.inl ⟨_,C,ak.sep _⟩,.inl ⟨_,D,ak.sep _⟩,.inl ⟨_,E,ak.bz (k:=1) rfl (by decide) (λb d=>by rw[if_neg (by omega)])⟩,.inl ⟨_,F,ak.bz (k:=0) rfl (by decide) (λb d=>absurd d (q0o b))⟩,.inl ⟨_,G,ak.bz (k:=0) rfl (by decide) (λb d=>absurd d (q0o b))⟩,.inl (I.elim λl h=>⟨_,h.1,ak.st h.2⟩),trivial⟩ rfl (λx f y i=>by simp only[Z5,Z4,or_false]at f i;rcases f with rfl|rfl|rfl|rfl|rfl|rfl|rfl|rfl|rfl<;>rcases i with rfl|rfl|rfl|rfl|rfl|rfl|rfl|rfl|rfl<;>simp<;>omega)
def adL (c:SpC) (k:Tx) (t:Int) (v:Int) (was:Int) (L:List Rl) (j:Nat):AE×AH:=(mkE [(2,AV.fn 74 [] [.ptr 8 0,.ptr 5 0,.ptr 6 0,.ptr 7 0]),(13,.fr L.length 5 (ruL L)),(14,.si .i64 ((L.length:Int))),(15,.si .i64 ((j:Int)))],mkH [(0,.cells [.map 1,aA c.px,aA c.pg] true),(1,c.m.O kT gE),(2,.sep (IxB.Q c.x c.px)),(3,.sep (GrB.Q c.g c.pg)),(4,.sep (aE (aH c.m.A))),(5,.cells [.ptr 0 0] true),(6,.cells [.ss k] true),(7,.cells [.si .i64 t,.si .i64 v] true),(8,.cells [.si .i64 was] true)])
theorem vq{c:SpC}{k:Tx}{t:Int}{v:Int}{was:Int}{L:List Rl}{j:Nat}{p n:Nat}{σ:AE}{H:AH}(f:p<=14)(h:ae H 14 (λb=>b) (ai (pa 2) σ) (AV.fn 74 [] [.ptr 8 0,.ptr 5 0,.ptr 6 0,.ptr 7 0]))(a:ai (pa 13) σ= .fr L.length 5 (ruL L))(d:mk (ai (pa 14) σ)= .si .i64 ((L.length:Int)))(e:mk (ai (pa 15) σ)= .si .i64 ((j:Int)))(i:H.get 0=some (.cells [.map 1,aA c.px,aA c.pg] true))(l:H.get 1=some (c.m.O kT gE))(o:H.get 2=some (.sep (IxB.Q c.x c.px)))(q:H.get 3=some (.sep (GrB.Q c.g c.pg)))(s:H.get 4=some (.sep (aE (aH c.m.A))))(u:H.get 5=some (.cells [.ptr 0 0] true))(w:H.get 6=some (.cells [.ss k] true))(y:H.get 7=some (.cells [.si .i64 t,.si .i64 v] true))(z:H.get 8=some (.cells [.si .i64 was] true)):Cov p σ H n ((adL c k t v was L j).1,(adL c k t v was L j).2,14):=
 Cov.ofA f ⟨h,ae.frE a,.int d,.int e,trivial⟩ ⟨.inl ⟨_,i,ak.refl rfl⟩,.inl ⟨_,l,ak.refl (aC bK iG)⟩,.inl ⟨_,o,ak.sep _⟩,.inl ⟨_,q,ak.sep _⟩,.inl ⟨_,s,ak.sep _⟩,.inl ⟨_,u,ak.refl rfl⟩,.inl ⟨_,w,ak.refl rfl⟩,.inl ⟨_,y,ak.refl rfl⟩,.inl ⟨_,z,ak.refl rfl⟩,trivial⟩ rfl
theorem K8(X:SpV)(k:Tx)(t v p:Int)(c:SpC)(hc:bA X c)(h64:aR v)(hl:Links X)(hb:Bnd X 20000){Y:SpV×Int}(B:jY X k t v p=Y):ax Vk 6 32 [.ptr 0 0,.ss k,.agg [.si .i64 t,.si .i64 v],.si .i64 p] (mkH (bE (spO c) 0)) 5 (gm SpB Y.1 (.si .i64 Y.2)):=by
 obtain⟨Y1,Y2⟩:=Y
 conv=>whnf
 refine⟨X,[.ss k],X,_,_,c,rfl,by decide,.cons .same .nil,hc,tY rfl rfl rfl rfl rfl,⟨k,rfl,rfl,rfl⟩,λn o=>?_⟩
 conv=>whnf
 refine ag.du (λP=>?_) (λP=>?_)
 focus
  unfold jY at B;rw[if_pos P]at B;injection B with e1 e2;subst e1 e2
  conv=>whnf
  exact⟨_,n,.told rfl,o,bQ rfl rfl rfl rfl rfl⟩
 have P:dD X k=0:=P;unfold jY at B;rw[if_neg (by rw[P];exact λq=>q rfl)]at B
 have hK:(X.K k).isSome=true:=by
  unfold dD at P;by_cases q:(X.K k).isSome=true
  ·exact q
  ·rw[if_neg q]at P;cases P
 obtain⟨e,he⟩:=q0s.1 hK;rw[he]at B;dsimp only at B;obtain⟨p1,A1,A2,g1,a1,u1,q1⟩:=o.at1 he;have hL:=hb k e he
 conv=>whnf
 refine qq.mk Unit 9 (λ_=>adJ n k t v p e.S.mx) ?_ ?_
 focus
  conv=>whnf
  refine⟨?_,?_,trivial⟩
  focus
   conv=>whnf
   refine Ask.mk _ (bb (m:=n.m) (g:=gE) (k:=k) bP nV rfl rfl rfl qe g1) ?_
   conv=>whnf
   refine⟨4,aH A1,aH A2,p1,e.S,e.L,_,rfl,by decide,by decide,rfl,congrArg (λx=>some (AO.sep (aE x))) q1,⟨rfl,rfl⟩,?_⟩
   conv=>whnf
   exact⟨(),IQ (c:=n) (k:=k) (t:=t) (v:=v) (q:=p) (was:=e.S.mx) 12 (by decide) (by decide) rfl rfl rfl rfl rfl rfl rfl rfl rfl rfl rfl rfl rfl ⟨_,rfl,.cons (.int rfl) .nil⟩⟩
  focus
   conv=>whnf
   refine Ask.mk _ (bb (m:=n.m) (g:=gE) (k:=k) bP nV rfl rfl rfl qe g1) ?_
   conv=>whnf
   refine⟨4,aH A1,aH A2,p1,e.S,e.L,_,rfl,by decide,by decide,rfl,congrArg (λx=>some (AO.sep (aE x))) q1,⟨rfl,rfl⟩,?_⟩
   conv=>whnf
   exact⟨(),IQ (c:=n) (k:=k) (t:=t) (v:=v) (q:=p) (was:=e.S.mx) 8 (by decide) (by decide) rfl rfl rfl rfl rfl rfl rfl rfl rfl rfl rfl rfl rfl ⟨_,rfl,.cons (.int rfl) .nil⟩⟩
 intro _;obtain⟨Z,hZ⟩:∃Z,Z=gY e.S e.L t v p:=⟨_,rfl⟩;have hK1:OS X k e t v p=fO X k {e with S:=Z.1.1,L:=Z.1.2}:=by rw[hZ];rfl
 rw[hK1,<-hZ]at B;obtain⟨⟨C,D⟩,en⟩:=Z;dsimp only at B hK1
 conv=>whnf
 refine Ask.mk _ (bb (m:=n.m) (g:=gE) (k:=k) bP nV rfl rfl rfl qe g1) ?_
 conv=>whnf
 refine⟨4,aH A1,aH A2,p1,e.S,e.L,t,v,p,C,D,en,rfl,by decide,by decide,rfl,congrArg (λx=>some (AO.sep (aE x))) q1,⟨_,_,rfl,rfl,rfl⟩,rfl,h64,by omega,hZ.symm,λho=>?_⟩;obtain⟨k1,k2,k3⟩:=o.x9 he g1 a1 u1 ho
 conv=>whnf
 refine ag.du (λz2=>?_) (λz2=>?_)
 focus
  rw[if_pos z2]at B;injection B with e1 e2;subst e1 e2
  have hs:fO X k {e with S:=C,L:=D}=X:=by
   obtain⟨a1,a2⟩:C=e.S/\D=e.L:=OT hZ.symm z2;rw[a1,a2];exact BJ he
  rw[hs]at k1
  conv=>whnf
  exact⟨_,{n with m:=n.m.put k ⟨p1,C,D,e.z⟩},.told rfl,k1,bQ rfl (congrArg some k2.symm) rfl rfl (congrArg (λx=>some (AO.sep (aE x))) k3.symm)⟩
 rw[if_neg (λq=>q z2)]at B;injection B with e1 e2;subst e1 e2;obtain⟨a,J⟩:∃a,a=ofX X k:=⟨_,rfl⟩;have hR1:ofG n.g k=a:=by rw[J];exact o.of k
 rw[<-J]
 have Q:∀r∈a,k≠r.dst/\X.R r.dst=some r/\r.src=k:=λr T=>by
  rw[J]at T;obtain⟨m1,m2⟩:=o.yd.1 T;exact⟨λq=>qa (o.rul _ _ m1) (m2.trans q),m1,m2⟩
 have hlen:a.length<=1000:=by rw[J];exact o.OQ k
 have hgl:n.g.length<=1000:=q0d o.gl o.n9;obtain⟨H,F⟩:∃H,H=fO X k {e with S:=C,L:=D}:=⟨_,rfl⟩;rw[<-F]at k1;rw[<-F]
 have hB1:Bnd H 20001:=λx y U=>by
  rw[F,fC]at U;split at U
  ·injection U with U;subst U;have:=sD e.S e.L t v p;rw[<-hZ]at this;show D.length<=20001;have h4:D.length<=e.L.length+1:=this;omega
  ·exact q0d (hb x y U) (by decide)
 have hXk:H.K k=some {e with S:=C,L:=D}:=by rw[F,fC,if_pos rfl]
 have hXs:∀x,(H.K x).isSome=(X.K x).isSome:=λx=>by
  rw[F,fC];by_cases q:x=k
  ·subst q;rw[if_pos rfl,he];rfl
  ·rw[if_neg q]
 obtain⟨I,M⟩:∃I:SpC,I={n with m:=n.m.put k ⟨p1,C,D,e.z⟩}:=⟨_,rfl⟩;have k2':n.m.O kT gE=I.m.O kT gE:=by rw[M];exact k2.symm
 have k3':aH A1++cn p1 C D::aH A2=aH I.m.A:=by rw[M];exact k3.symm
 have E:I.px=n.px/\I.pg=n.pg/\I.x=n.x/\I.g=n.g:=by rw[M];exact⟨rfl,rfl,rfl,rfl⟩
 rw[<-M]at k1
 conv=>whnf
 refine⟨3,n.pg,n.g,[.ss k],.fr a.length 5 (ruL a),rfl,by decide,by decide,.cons .same .nil,rfl,rfl,⟨k,rfl,hgl,by rw[hR1]⟩,?_⟩
 conv=>whnf
 refine aN.mk {w:Nat×SpC//w.1<=a.length/\bA ((a.take w.1).foldl (dN k e.S.mx t) H) w.2} 14 (λw=>adL w.val.2 k t v e.S.mx a w.val.1) (λw=>a.length-w.val.1) ⟨(0,I),Z9 _,k1⟩ ?_ ?_
 focus
  refine vq (c:=I) (k:=k) (t:=t) (v:=v) (was:=e.S.mx) (L:=a) (j:=0) ?_ ?_ ?_ ?_ ?_ ?_ ?_ ?_ ?_ ?_ ?_ ?_ ?_ ?_
  ·exact Z3 14
  ·exact ae.c6 (k:=14) rfl rfl (Z3 14) (λ_ _=>rfl)
  ·exact rfl
  ·exact rfl
  ·exact rfl
  ·rw[E.1,E.2.1];exact rfl
  ·exact congrArg some k2'
  ·rw[E.1,E.2.2.1];exact rfl
  ·rw[E.2.1,E.2.2.2];exact rfl
  ·exact congrArg (λx=>some (AO.sep (aE x))) k3'
  ·exact rfl
  ·exact rfl
  ·exact rfl
  ·exact rfl
 intro⟨(j,W),hj,u⟩;have hj:j<=a.length:=hj;obtain⟨i,N⟩:∃i,i=(a.take j).foldl (dN k e.S.mx t) H:=⟨_,rfl⟩;have u:bA i W:=by rw[N];exact u
 have hw:IntKind.i64.wrap ((j:Int)+1)=((j+1:Nat):Int):=by rw[aj (by omega) (by omega)];omega
 obtain⟨f1,f2,f3,f4,f5⟩:=uN (k:=k) (was:=e.S.mx) (t:=t) (a.take j) (X:=H) (b:=20001) (λr T=>(Q r (q3e T)).1) hB1;rw[<-N]at f1 f2 f3 f4 f5;rw[hXk]at f4;have hB3:Bnd i 25000:=λx y U=>q0d (f5 x y U) (by rw[q0l];omega)
 conv=>whnf
 refine ag.dec (λh=>?_) (λh=>?_)
 focus
  have h3:j<a.length:=q0v.1 h;have hlt:a.length-(j+1)<a.length-j:=by omega
  obtain⟨r,T⟩:∃r,r=a[j]:=⟨_,rfl⟩;have sub:bl (ruL a) (j*5) 5=some (ruC r):=by rw[T];exact vo h3 rfl
  obtain⟨m1,m2,m3⟩:=Q r (by rw[T];exact q0k h3)
  have f:(a.take (j+1)).foldl (dN k e.S.mx t) H=dN k e.S.mx t i r:=by
   rw[q0c h3,q3b,<-N,<-T];rfl
  have s:i.K r.src=some {e with S:=C,L:=D}:=by rw[m3];exact f4
  have hdS:(i.K r.dst).isSome=true:=by rw[f3,hXs];exact(hl _ _ m2).2
  obtain⟨d,hd⟩:=q0s.1 hdS;have hmx:mxK i k=C.mx:=by unfold mxK;rw[f4]
  obtain⟨p3,C1,C2,g3,a3,u3,q3⟩:=u.at1 f4;have lsrc:=hB3 _ _ s;have ldst:=hB3 _ _ hd;have one:¬(0<=e.S.mx/\e.S.mx<mxK i k)->dN k e.S.mx t i r=cq i r t:=λq=>by unfold dN;rw[if_neg q]
  have two:0<=e.S.mx->e.S.mx<C.mx->dN k e.S.mx t i r=cq (cq i r e.S.mx) r t:=λq q2=>by unfold dN;rw[if_pos ⟨q,by rw[hmx];exact q2⟩]
  conv=>whnf
  refine Idx.mk j rfl h3 ?_
  conv=>whnf
  refine aq sub ?_
  conv=>whnf
  refine ag.dec (λz3=>?_) (λz3=>?_)
  focus
   conv=>whnf
   refine Ask.mk _ (bb (m:=W.m) (g:=gE) (k:=k) bP nV rfl rfl rfl qe g3) ?_
   conv=>whnf
   refine⟨4,aH C1,aH C2,p3,C,D,_,rfl,by decide,by decide,rfl,congrArg (λx=>some (AO.sep (aE x))) q3,⟨rfl,rfl⟩,?_⟩
   conv=>whnf
   refine ag.dec (λz4=>?_) (λz4=>?_)
   focus
    have hs2:(cq i r e.S.mx).K r.src=some {e with S:=C,L:=D}:=by rw[pE (by rw[m3];exact m1)];exact s
    obtain⟨d2,hd2⟩:=q0s.1 (show((cq i r e.S.mx).K r.dst).isSome=true by rw[js];exact hdS);have ld2:=m6 hB3 _ _ hd2;rw[two z3 z4]at f
    conv=>whnf
    refine⟨i,[gR r,.si .i64 e.S.mx],cq i r e.S.mx,.tup [],_,W,rfl,by decide,.cons .same (.cons .same .nil),u,tY rfl rfl rfl rfl rfl,⟨r,e.S.mx,_,d,rfl,s,hd,by omega,by omega,rfl,rfl⟩,λc4 hc4=>?_⟩
    conv=>whnf
    refine⟨cq i r e.S.mx,[gR r,.si .i64 t],cq (cq i r e.S.mx) r t,.tup [],_,c4,rfl,by decide,.cons .same (.cons .same .nil),hc4,tY rfl rfl rfl rfl rfl,⟨r,t,_,d2,rfl,hs2,hd2,by omega,by omega,rfl,rfl⟩,λV G=>?_⟩
    conv=>whnf
    exact⟨⟨(j+1,V),h3,by rw[f];exact G⟩,hlt,vq (c:=V) (k:=k) (t:=t) (v:=v) (was:=e.S.mx) (L:=a) (j:=j+1) (Z3 14) (ae.c6 (k:=14) rfl rfl (Z3 14) (λ_ _=>rfl)) rfl rfl (congrArg (AV.si .i64) hw) rfl rfl rfl rfl rfl rfl rfl rfl rfl⟩
   rw[one (λq=>z4 (by rw[<-hmx];exact q.2))]at f
   conv=>whnf
   refine⟨i,[gR r,.si .i64 t],cq i r t,.tup [],_,W,rfl,by decide,.cons .same (.cons .same .nil),u,tY rfl rfl rfl rfl rfl,⟨r,t,_,d,rfl,s,hd,by omega,by omega,rfl,rfl⟩,λV G=>?_⟩
   conv=>whnf
   exact⟨⟨(j+1,V),h3,by rw[f];exact G⟩,hlt,vq (c:=V) (k:=k) (t:=t) (v:=v) (was:=e.S.mx) (L:=a) (j:=j+1) (Z3 14) (ae.c6 (k:=14) rfl rfl (Z3 14) (λ_ _=>rfl)) rfl rfl (congrArg (AV.si .i64) hw) rfl rfl rfl rfl rfl rfl rfl rfl rfl⟩
  rw[one (λq=>z3 q.1)]at f
  conv=>whnf
  refine⟨i,[gR r,.si .i64 t],cq i r t,.tup [],_,W,rfl,by decide,.cons .same (.cons .same .nil),u,tY rfl rfl rfl rfl rfl,⟨r,t,_,d,rfl,s,hd,by omega,by omega,rfl,rfl⟩,λV G=>?_⟩
  conv=>whnf
  exact⟨⟨(j+1,V),h3,by rw[f];exact G⟩,hlt,vq (c:=V) (k:=k) (t:=t) (v:=v) (was:=e.S.mx) (L:=a) (j:=j+1) (Z3 14) (ae.c6 (k:=14) rfl rfl (Z3 14) (λ_ _=>rfl)) rfl rfl (congrArg (AV.si .i64) hw) rfl rfl rfl rfl rfl rfl rfl rfl rfl⟩
 have ej:j=a.length:=by have h:¬(j:Int)<(a.length:Int):=h;omega
 have hfin:bA (a.foldl (dN k e.S.mx t) H) W:=by rw[<-q0u (l:=a),<-ej,<-N];exact u
 conv=>whnf
 exact⟨_,W,.told rfl,hfin,bQ rfl rfl rfl rfl rfl⟩
def qb(X:SpV)(cs:List AV)(a:SpV)(u:AV):Prop:=∃k t v p Y,cs=[.ss k,.agg [.si .i64 t,.si .i64 v],.si .i64 p]/\aR v/\Links X/\Bnd X 20000/\jY X k t v p=Y/\a=Y.1/\u= .si .i64 Y.2
theorem IS:∀X cs a u,qb X cs a u->cs.all gj=true/\gj u=true/\∀c,SpB.ok X c->ax Vk 6 32 (.ptr 0 0::cs) (mkH (bE (SpB.O c) 0)) 5 (gm SpB a u):=λX cs a u ⟨k,t,v,p,Y,b,d,e,f,g,h,i⟩=>by
 subst b h i;exact⟨rfl,rfl,λc j=>K8 X k t v p c j d e f g⟩
theorem Rx:al 32 (gM 5 SpB qb):=uL (ay IP 6 _) (by kernel_rfl) SpB rfl (by decide) IS
theorem IT:al 32 (cK 5 SpB qb):=gu IP 6 (by kernel_rfl) SpB rfl (by decide) IS
def m7 (X:SpV):List Tx:=aK ((uW X.K).map Prod.fst)
theorem bA.K9{X:SpV}{c:SpC}(h:bA X c):((uW X.K).map Prod.fst).Nodup/\∀k,aD (uW X.K) k=X.K k:=by
 let A:List (Tx×fK):=c.x.A.filterMap λe=>(X.K e.1).map λy=>(e.1,y)
 have j:∀e∈c.x.A,∃y,X.K e.1=some y:=λe l=>by
  have a:=cV h.xk (show(e.1,e.2)∈c.x.A from l);rw[h.I]at a;obtain⟨y,b,_⟩:=Z7.1 a;exact⟨y,b⟩
 have m:A.map Prod.fst=c.x.A.map Prod.fst:=by
  have:∀B:List (Tx×List Lab),(∀e∈B,∃y,X.K e.1=some y)->(B.filterMap λe=>(X.K e.1).map λy=>(e.1,y)).map Prod.fst=B.map Prod.fst:=λB=>by
   induction B with
   |nil=>intro _;rfl
   |cons e B n=>
    intro g;obtain⟨y,b⟩:=g e q0i;rw[List.filterMap_cons,b];simp only[q0q,q1y];rw[n λq d=>g q (q0f _ d)]
  exact this _ j
 have nd:(A.map Prod.fst).Nodup:=by rw[m];exact h.xk
 refine mZ nd λk=>?_
 cases e:X.K k with
 |none=>
  cases o:aD A k with
  |none=>rfl
  |some y=>
   obtain⟨q,_,d⟩:=q2x.1 (bJ o);obtain⟨z,i,f⟩:=Z7.1 d;injection f with f h3;rw[f,e]at i;cases i
 |some y=>
  have a:=h.I k;rw[e]at a;exact cV nd (q2x.2 ⟨(k,y.lab),bJ a,by rw[e];rfl⟩)
theorem bA.keys{X:SpV}{c:SpC}(h:bA X c):aK (c.x.A.map Prod.fst)=m7 X:=yb λk=>by
 rw[q0p,q0p];constructor
 ·rintro⟨e,b,rfl⟩;have a:=cV h.xk (show(e.1,e.2)∈c.x.A from b);rw[h.I]at a;obtain⟨y,d,_⟩:=Z7.1 a;exact⟨(e.1,y),bJ (by rw[h.K9.2];exact d),rfl⟩
 ·rintro⟨e,b,rfl⟩;have a:=cV h.K9.1 (show(e.1,e.2)∈uW X.K from b);rw[h.K9.2]at a;exact⟨(e.1,e.2.lab),bJ (by rw[h.I,a];rfl),rfl⟩
theorem m8{X:SpV}{c:SpC}(h:bA X c){k:Tx}:k∈m7 X<->(X.K k).isSome=true:=by
 unfold m7;rw[(ba _).2,q0p];constructor
 ·rintro⟨e,b,rfl⟩;have a:=cV h.K9.1 (show(e.1,e.2)∈uW X.K from b);rw[h.K9.2]at a;rw[a];rfl
 ·intro q;obtain⟨y,d⟩:=q0s.1 q;exact⟨(k,y),bJ (by rw[h.K9.2];exact d),rfl⟩
def Vl(X:SpV)(cs:List AV)(v:AV):Prop:=cs=[]/\v= .fr (m7 X).length 1 (strs (m7 X))
def Vm(X:SpV)(cs:List AV)(v:AV):Prop:=cs=[]/\v= .fr (yc X).length 5 (ruL (yc X))
def YP:FuncId->EP:=ao 65 (dM 4 IxB Xh) (ao 53 (dM 2 GrB Oz) evP)
theorem IU:aS YP:=ab (ab az Rk) Ou
theorem Eo:al 25 (dM 5 SpB Vl):=(gu IU 5 (by kernel_rfl) SpB rfl (by decide) λX cs b v ⟨d,e,f⟩=>by
 subst d e f;refine⟨rfl,rfl,λc a=>?_⟩;have hk:=a.keys;have g:c.x.A.length<=1000:=q0d a.xl a.n9
 conv=>whnf
 refine⟨2,c.px,c.x,[],.fr (m7 b).length 1 (strs (m7 b)),rfl,by decide,by decide,.nil,rfl,rfl,?_,?_⟩
 ·exact⟨rfl,q0d g (by decide),by rw[hk];rfl⟩
 conv=>whnf
 exact⟨_,c,.same,a,bQ rfl rfl rfl rfl rfl⟩).ol
theorem zW:al 12 (dM 5 SpB Vm):=(gu IU 5 (by kernel_rfl) SpB rfl (by decide) λX cs b v ⟨d,e,f⟩=>by
 subst d e f;refine⟨rfl,rfl,λc a=>?_⟩;have hk:=a.all;have h:c.g.length<=1000:=q0d a.gl a.n9
 conv=>whnf
 refine⟨3,c.pg,c.g,[],.fr (yc b).length 5 (ruL (yc b)),rfl,by decide,by decide,.nil,rfl,rfl,?_,?_⟩
 ·exact⟨rfl,h,by rw[hk]⟩
 conv=>whnf
 exact⟨_,c,.same,a,bQ rfl rfl rfl rfl rfl⟩).ol
def qg(X:SpV)(d:Tx)(r:Option Rl):SpV:={X with R:=λx=>if x=d then r else X.R x}
def ua(X:SpV)(s d:Tx):SpV×Int:=match X.R d with
 |none=>(X,5)
 |some r=>if r.src=s then(qg X d none,0)else(X,5)
def Vn(X:SpV)(cs:List AV)(a:SpV)(v:AV):Prop:=∃s d Y,cs=[.ss s,.ss d]/\ua X s d=Y/\a=Y.1/\v= .si .i64 Y.2
def YQ:FuncId->EP:=ao 109 (cK 2 GrB Xo) evP
theorem Ry:aS YQ:=ab az OF
theorem bA.gr{X:SpV}{c:SpC}(h:bA X c){g:Gr}{R:Tx->Option Rl}(a:(g.map Prod.fst).Nodup)(b:g.length<=X.n)(d:∀k,aD g k=R k)(f:∀e∈g,e.2.dst=e.1)(i:∀k r,R k=some r->cU r=true):bA {X with R:=R} {c with g:=g}:=
 ⟨h.o,h.xk,a,h.n9,h.ml,h.xl,h.xw,b,h.K,h.I,d,f,h.ser,h.key,i⟩
theorem ye:al 49 (cK 5 SpB Vn):=gu Ry 5 (by kernel_rfl) SpB rfl (by decide) λX cs m v ⟨s,d,Y,i,b,j,k⟩=>by
 subst i j k;refine⟨rfl,rfl,λc a=>?_⟩;have f:=a.R d;unfold ua at b;cases hd:X.R d with
 |none=>
  rw[hd]at f b;have e:qw c.g s d=(c.g,.tup [.agg [.str [],.str [],.int .i64 0,.int .i64 0,.int .i64 0],.si .i64 5]):=by unfold qw;rw[f]
  subst b
  conv=>whnf
  refine⟨3,c.pg,c.g,[.ss s,.ss d],_,_,_,rfl,by decide,by decide,.cons .same (.cons .same .nil),rfl,rfl,⟨s,d,_,rfl,e,rfl,rfl⟩,?_⟩
  conv=>whnf
  exact⟨_,c,.told rfl,a,bQ rfl rfl rfl rfl rfl⟩
 |some r=>
  rw[hd]at f b;dsimp only at b;by_cases q:r.src=s
  ·have e:qw c.g s d=(dq c.g d,.tup [gR r,.si .i64 0]):=by unfold qw;rw[f];exact if_pos q
   rw[if_pos q]at b;subst b
   have ok:bA (qg X d none) {c with g:=dq c.g d}:=a.gr (sU a.gk d) (q0d (pD _ _) a.gl) (λx=>by rw[p9 a.gk,a.R]) (λe l=>a.dst e (sS l)) (λx y h=>by
    by_cases q:x=d
    ·rw[if_pos q]at h;cases h
    ·rw[if_neg q]at h;exact a.rul x y h)
   conv=>whnf
   refine⟨3,c.pg,c.g,[.ss s,.ss d],_,_,_,rfl,by decide,by decide,.cons .same (.cons .same .nil),rfl,rfl,⟨s,d,_,rfl,e,rfl,rfl⟩,?_⟩
   conv=>whnf
   exact⟨_,{c with g:=dq c.g d},.told rfl,ok,bQ rfl rfl rfl rfl rfl⟩
  ·have e:qw c.g s d=(c.g,.tup [.agg [.str [],.str [],.int .i64 0,.int .i64 0,.int .i64 0],.si .i64 5]):=by unfold qw;rw[f];exact if_neg q
   rw[if_neg q]at b;subst b
   conv=>whnf
   refine⟨3,c.pg,c.g,[.ss s,.ss d],_,_,_,rfl,by decide,by decide,.cons .same (.cons .same .nil),rfl,rfl,⟨s,d,_,rfl,e,rfl,rfl⟩,?_⟩
   conv=>whnf
   exact⟨_,c,.told rfl,a,bQ rfl rfl rfl rfl rfl⟩
section
variable {φ:Ph} {H:AH} {n:Nat} {h0 h:Hp} {b m:Nat} {Q Q' R:HP}
theorem HR.shrink(a:HR φ H n h0 h)(w:H.get b=some (.sep Q))(d:∀z X h,Q.P z X h->∃Y:Nat->Prop,(∀B,Y B->X B)/\Q'.P z Y h):∃ψ,PLe φ ψ/\HR ψ (H.set (some (.sep Q')) aa b) n h0 h:=by
 obtain⟨Y,U,V⟩:=d _ _ _ (a.sep b _ w).1;have s4:=(a.sep b _ w).2;have l:=a.nM w
 let ψ:Ph:=⟨φ.f,φ.z,φ.y,λx=>if x=b then Y else φ.s x⟩
 have sb:ψ.s b=Y:=if_pos rfl
 have N:∀x,x≠b->ψ.s x=φ.s x:=λx p=>if_neg p
 have cs:∀x o,(H.set (some (.sep Q')) aa b).get x=some o->(x=b/\o= .sep Q')∨(x≠b/\H.get x=some o):=λx o c=>by
  rcases PM.an aa H b x o c with⟨p,i⟩|i
  ·injection i with i;exact .inl ⟨p,i.symm⟩
  ·exact .inr i
 have own:∀x o q,(H.set (some (.sep Q')) aa b).get x=some o->φ x=some q->H.get x=some o:=λx o q c d=>by
  rcases cs x o c with⟨rfl,_⟩|⟨_,C⟩
  ·rw[l]at d;cases d
  ·exact C
 have sle:SLe φ ψ:=⟨λ_ _ h=>h,λ_ h=>h⟩
 have up:∀{x B},ψ.s x B->φ.s x B:=λ{x B} k=>by
  by_cases q:x=b
  ·subst q;rw[sb]at k;exact U B k
  ·rw[N x q]at k;exact k
 refine⟨ψ,⟨λ_ _ h=>h,λ_ h=>h,λ_ h=>h⟩,⟨a.dom,λx o c=>?_,λx y o r q O c j ho D d t e=>a.inj x y o r q O (own x o q c d) (own y r O j t) ho D d t e,a.base,a.size,λq d=>⟨⟨FzR.mono (φ:=φ) (ψ:=ψ) sle.z (a.frz q d).1.1,(a.frz q d).1.2⟩,λx o px c ho u=>(a.frz q d).2 x o px (own x o px c u) ho u⟩,λx A c=>?_⟩⟩
 ·rcases cs x o c with⟨rfl,rfl⟩|⟨_,W⟩
  ·exact .inl ⟨l,rfl⟩
  ·rcases a.live x o W with g|⟨q,Z,E,F,G,I⟩
   ·exact .inl g
   ·exact .inr ⟨q,Z,E,F,G,I.c9 sle⟩
 ·have v:∀{y A},(H.set (some (.sep Q')) aa b).get y=some (.sep A)->∃J,H.get y=some (.sep J):=λ{y A} j=>by
   rcases cs y _ j with⟨rfl,_⟩|⟨_,C⟩
   ·exact⟨_,w⟩
   ·exact⟨_,C⟩
  refine⟨?_,λB k=>?_⟩
  ·rcases cs x _ c with⟨rfl,i⟩|⟨p,i⟩
   ·injection i with i;subst i;rw[sb];exact V
   ·rw[N x p];exact(a.sep x A i).1
  ·obtain⟨J,K⟩:=v c;obtain⟨E,F,G,I⟩:=(a.sep x J K).2 B (up k)
   exact⟨E,λy r S j ho T=>F y r S (own y r S j T) ho T,G,λy Q4 j L hs=>by
    obtain⟨Q5,M⟩:=v j;exact I y Q5 M L (up hs)⟩
theorem La(A C:List HP){z:Fz->Prop}{X:Nat->Prop}{h:Hp}(a:(aE (A++Q::C)).P z X h):∃Y:Nat->Prop,(∀B,Y B->X B)/\(aE (A++C)).P z Y h:=by
 obtain⟨Y,Z,c,f,g,d⟩:=tR A a;exact⟨Z,λB e=>(c B).2 (.inr e),d⟩
theorem Re.YR{A C:List HP}{u v:AV}(c:H.get b=some (.sep (aE (A++Q::C))))(e:mkT u=mkT v):Re H n u (H.set (some (.sep (aE (A++C)))) aa b) v:=λφ h0 h w d f=>by
 obtain⟨g,l,a⟩:=d.shrink c λz X h=>La A C
 exact⟨g,l,a,VR.mono l _ _ (Io (e▸f.mkT))⟩
theorem HR.IV(i:HR φ H n h0 h)(a:b<1000000)(c:b≠m){A C:List HP}(j:H.get b=some (.sep (aE (A++C))))(k:H.get m=some (.sep Q)):∃ψ,PLe φ ψ/\HR ψ ((H.set none aa m).set (some (.sep (aE (A++Q::C)))) aa b) n h0 h:=by
 obtain⟨ψ,l,d⟩:=i.join c j k;have e:=d.uD (Q':=aE (A++Q::C)) (PM.geq a) λ_ _ _=>xH A
 refine⟨ψ,l,e.less λx o p=>?_⟩;rcases PM.an aa _ b x o p with⟨rfl,f⟩|⟨g,f⟩
 ·rw[PM.geq a];exact f
 ·exact PM.gne a g (PM.gne a g f)
theorem Re.IV{A C:List HP}{u v:AV}(a:b<1000000)(c:b≠m)(f:H.get b=some (.sep (aE (A++C))))(g:H.get m=some (.sep Q))(e:mkT u=mkT v):Re H n u ((H.set none aa m).set (some (.sep (aE (A++Q::C)))) aa b) v:=λφ h0 h w i j=>by
 obtain⟨k,l,d⟩:=i.IV a c f g;exact⟨k,l,d,VR.mono l _ _ (Io (e▸j.mkT))⟩
end
def dt(X:SpV)(k:Tx):SpV:=if(X.K k).isSome=true then{X with K:=λx=>if x=k then none else X.K x,R:=λd=>match X.R d with
 |some r=>if pw k r=true then none else some r
 |none=>none}else X
def OV(X:SpV)(cs:List AV)(a:SpV)(v:AV):Prop:=∃k,cs=[.ss k]/\a=dt X k/\v= .sb (X.K k).isSome
def Vo:FuncId->EP:=ao 68 (cK 4 IxB Rg) (ao 69 (cK 2 GrB Xm) evP)
theorem Rz:aS Vo:=ab (ab az OC) Oo
theorem bA.drop{X:SpV}{c:SpC}(h:bA X c){k:Tx}(i:(X.K k).isSome=true):bA (dt X k) {c with m:=c.m.del k,x:=⟨dq c.x.A k,c.x.w⟩,g:=uM c.g k}:=by
 obtain⟨j,l,p⟩:=K6 h.gk h.dst k;unfold dt;rw[if_pos i];refine⟨h.o.del k,sU h.xk k,j,h.n9,?_,q0d (pD _ _) h.xl,h.xw,q0d l h.gl,λx=>?_,λx=>?_,λd=>?_,λe a=>h.dst e (tX a),λx e a=>?_,λx e a=>?_,λd r f=>?_⟩
 ·rw[xP];exact q0d (pD _ _) h.ml
 ·rw[Ee h.o];by_cases q:x=k
  ·simp[q]
  ·simp[q,h.K x]
 ·rw[p9 h.xk];by_cases q:x=k
  ·simp[q]
  ·simp[q,h.I x]
 ·rw[p,h.R]<;>rfl
 ·dsimp only at a;by_cases q:x=k
  ·rw[if_pos q]at a;cases a
  ·rw[if_neg q]at a;exact h.ser x e a
 ·dsimp only at a;by_cases q:x=k
  ·rw[if_pos q]at a;cases a
  ·rw[if_neg q]at a;exact h.key x e a
 ·dsimp only at f;split at f
  ·rename_i s t;split at f
   ·cases f
   ·injection f with f;subst f;exact h.rul d s t
  ·cases f
theorem bA.YS{X:SpV}{c:SpC}(h:bA X c){k:Tx}{E:SE}{a f:List (Tx×SE)}(g:c.m.A=a++(k,E)::f):(c.m.del k).A=a++f:=by
 have j:∀e∈a,k≠e.1:=λe d q=>by
  have:=h.o.key;rw[g,q0x,q1y,q3z]at this;exact this.2.2 e.1 (q0p.2 ⟨e,d,rfl⟩) k q0i q.symm
 have l:∀(a:List (Tx×SE)) (i:Nat),(∀e∈a,k≠e.1)->gz k (a++(k,E)::f) i=some (i+a.length,E):=λa=>by
  induction a with
  |nil=>intro i _;simp[gz]
  |cons e a p=>
   intro i d;rw[q1w];unfold gz;rw[if_neg (d e q0i),p (i+1) λx r=>d x (q0f _ r)];simp only[q0a];congr 2;omega
 rw[xP,g];unfold dq;rw[l a 0 j];dsimp only;rw[q1g,List.eraseIdx_append_of_length_le (Z3 _),Nat.sub_self];rfl
theorem GA(X:SpV)(k:Tx)(c:SpC)(a:bA X c):ax Vo 5 27 [.ptr 0 0,.ss k] (mkH (bE (spO c) 0)) 5 (gm SpB (dt X k) (.sb (X.K k).isSome)):=by
 have d:=a.has k;have j:c.x.w<900000:=by have:=a.xw;have:=a.n9;omega
 have p:c.g.length<=1000:=q0d a.gl a.n9;cases f:X.K k with
 |none=>
  rw[f]at d;have e:dt X k=X:=by unfold dt;rw[f];rfl
  have e0:aD c.x.A k=none:=by cases q:aD c.x.A k with
   |none=>rfl
   |some y=>rw[q]at d;cases d
  have r:(⟨dq c.x.A k,c.x.w⟩:Ix)=c.x:=by rw[p6 e0]
  rw[e]
  conv=>whnf
  refine⟨2,c.px,c.x,[.ss k],c.x,.sb false,_,rfl,by decide,by decide,.cons .same .nil,rfl,rfl,⟨k,rfl,j,r.symm,congrArg AV.sb d.symm⟩,?_⟩
  conv=>whnf
  refine ag.nsb (λz=>?_) (λz=>?_)
  focus
   conv=>whnf
   exact⟨_,c,.told rfl,a,bQ rfl rfl rfl rfl rfl⟩
  cases z
 |some y=>
  rw[f]at d;obtain⟨u,l,o,v,s,B,t⟩:=a.at1 f;have ok:=a.drop (k:=k) (by rw[f];rfl);have i:aH (c.m.del k).A=aH l++aH o:=by rw[a.YS s];unfold aH;rw[q0x]
  conv=>whnf
  refine⟨2,c.px,c.x,[.ss k],⟨dq c.x.A k,c.x.w⟩,.sb true,_,rfl,by decide,by decide,.cons .same .nil,rfl,rfl,⟨k,rfl,j,rfl,congrArg AV.sb d.symm⟩,?_⟩
  conv=>whnf
  refine ag.nsb (λz=>?_) (λz=>?_)
  focus
   cases z
  conv=>whnf
  refine Ask.mk _ (tV (m:=c.m) (g:=gE) (k:=k) bP nV rfl rfl rfl) ?_
  conv=>whnf
  refine⟨3,c.pg,c.g,[.ss k],uM c.g k,_,_,rfl,by decide,by decide,.cons .same .nil,rfl,rfl,⟨k,rfl,p,rfl,rfl⟩,?_⟩
  conv=>whnf
  exact⟨_,{c with m:=c.m.del k,x:=⟨dq c.x.A k,c.x.w⟩,g:=uM c.g k},.YR (b:=4) (A:=aH l) (C:=aH o) (congrArg (λx=>some (AO.sep (aE x))) t) rfl,ok,bQ rfl rfl rfl rfl (congrArg (λx=>some (AO.sep (aE x))) i.symm)⟩
theorem YT:∀X cs a v,OV X cs a v->cs.all gj=true/\gj v=true/\∀c,SpB.ok X c->ax Vo 5 27 (.ptr 0 0::cs) (mkH (bE (SpB.O c) 0)) 5 (gm SpB a v):=λX cs a v ⟨k,d,e,f⟩=>by
 subst d e f;exact⟨rfl,rfl,λc g=>GA X k c g⟩
theorem yf:al 27 (cK 5 SpB OV):=gu Rz 5 (by kernel_rfl) SpB rfl (by decide) YT
def crK(X:SpV)(k:Tx)(y:fK):SpV:={X with K:=λx=>if x=k then some y else X.K x,n:=X.n+1}
def crF (X:SpV) (k:Tx) (z ret pol:Int) (l:List Lab):SpV×Int:=match qd z ret pol with
 |none=>(X,1)
 |some S=>if(iu k&&dR l)=true then(if(X.K k).isSome=true then(X,6)else(crK X k ⟨S,[],z,cj l⟩,0))else(X,1)
def GB(z ret pol:Int)(l:List Lab):AV:= .agg [.si .i64 z,.si .i64 ret,.si .i64 pol,gL l]
def RA(X:SpV)(cs:List AV)(a:SpV)(v:AV):Prop:=∃k z ret pol l Y,cs=[.ss k,GB z ret pol l]/\l.length<=1000/\X.n<1000/\crF X k z ret pol l=Y/\a=Y.1/\v= .si .i64 Y.2
def RB:FuncId->EP:=aX 46 [] (ao 104 Bv (ao 84 (dM 4 IxB KY) (ao 107 (cK 4 IxB UY) (ao 105 (bV Eb) (ao 106 (bV US) (ao 108 OM evP))))))
theorem IW:aS RB:=au (ab (ab (ab (ab (ab (ab az Vg) Xd) Iu) IE) sO) UH) (by kernel_rfl) (by kernel_rfl)
theorem ub{m:MpC Tx SE}{k:Tx}(h:aD m.A k=none)(E:SE):(m.put k E).A=m.A++ [(k,E)]:=by
 unfold aD at h;rw[q4j]at h;unfold MpC.put;rw[h]
theorem RC{V:Type}{A:List (Tx×V)}{k:Tx}{q:Bool}(h:(aD A k).isSome=q)(a:q=false):aD A k=none:=by
 cases e:aD A k with
 |none=>rfl
 |some y=>rw[e,a]at h;cases h
theorem bA.create{X:SpV}{c:SpC}(h:bA X c){k:Tx}(e:X.K k=none)(hn:X.n<1000){p:Nat×Nat}{S:Sr}{z:Int}{l:List Lab}(ho:iZ S [])(b:iu k=true)(i:dR l=true):bA (crK X k ⟨S,[],z,cj l⟩) {c with m:=c.m.put k ⟨p,S,[],z⟩,x:=⟨eg (dq c.x.A k) k (cj l),c.x.w+8⟩}/\aH (c.m.put k ⟨p,S,[],z⟩).A=aH c.m.A++ [cn p S []]:=by
 have e0:aD c.x.A k=none:=RC (h.has k) (by rw[e];rfl);have f:=ub (h.no1 e) ⟨p,S,[],z⟩;have d:dq c.x.A k=c.x.A:=p6 e0;have j:=h.ml;have r:=h.xl;have s:=h.xw;have t:=h.gl;refine⟨⟨h.o.put k _,?_,h.gk,?_,?_,?_,?_,?_,λx=>?_,λx=>?_,h.R,h.dst,λx y a=>?_,λx y a=>?_,h.rul⟩,?_⟩
 ·show((eg (dq c.x.A k) k (cj l)).map Prod.fst).Nodup;rw[d];exact sV h.xk _ _
 ·show X.n+1<=1000;omega
 ·show(c.m.put k _).A.length<=X.n+1;rw[f,Z6];show _+1<=_;omega
 ·show(eg (dq c.x.A k) k (cj l)).length<=X.n+1;rw[d];have:=sW c.x.A k (cj l);omega
 ·show c.x.w+8<=8*(X.n+1);omega
 ·show c.g.length<=X.n+1;omega
 ·show(aD (c.m.put k _).A x).map pB=((crK X k ⟨S,[],z,cj l⟩).K x).map Gy;rw[xM h.o];by_cases q:x=k
  ·subst q;simp[crK,pB,Gy]
  ·simp[crK,q,h.K x]
 ·show aD (eg (dq c.x.A k) k (cj l)) x=((crK X k ⟨S,[],z,cj l⟩).K x).map fK.lab;rw[d,m5 h.xk];by_cases q:x=k
  ·subst q;simp[crK]
  ·simp[crK,q,h.I x]
 ·simp only[crK]at a;by_cases q:x=k
  ·rw[if_pos q]at a;injection a with a;subst a;exact ho
  ·rw[if_neg q]at a;exact h.ser x y a
 ·simp only[crK]at a;by_cases q:x=k
  ·subst q;exact b
  ·rw[if_neg q]at a;exact h.key x y a
 ·rw[f];unfold aH;rw[q0x];rfl
theorem BM(X:SpV)(k:Tx)(z ret pol:Int)(l:List Lab)(c:SpC)(d:bA X c)(s:l.length<=1000)(hn:X.n<1000){Y:SpV×Int}(a:crF X k z ret pol l=Y):ax RB 5 46 [.ptr 0 0,.ss k,GB z ret pol l] (mkH (bE (spO c) 0)) 5 (gm SpB Y.1 (.si .i64 Y.2)):=by
 obtain⟨t,B⟩:=Y;have D:=d.has k;have E:c.x.w<800000:=by have:=d.xw;have:=d.n9;omega
 unfold crF at a
 have no:∀u H n,(X,(1:Int))=(t,B)->u=AV.int .i64 1->H.get 0=some (.cells [.map 1,aA c.px,aA c.pg] true)->H.get 1=some (c.m.O kT gE)->H.get 2=some (.sep (IxB.Q c.x c.px))->H.get 3=some (.sep (GrB.Q c.g c.pg))->H.get 4=some (.sep (aE (aH c.m.A)))->gm SpB t (.si .i64 B) u H n:=λu H n e f F G I J L=>by
  injection e with e3 e4;subst f e3 e4;exact⟨_,c,.told rfl,d,bQ F G I J L⟩
 cases o:qd z ret pol with
 |none=>
  rw[o]at a
  conv=>whnf
  refine⟨z,ret,pol,none,rfl,rfl,rfl,⟨by decide,rfl,rfl,rfl,rfl⟩,o,?_⟩
  conv=>whnf
  exact no _ _ _ a rfl rfl rfl rfl rfl rfl
 |some S=>
  rw[o]at a;dsimp only at a
  conv=>whnf
  refine⟨z,ret,pol,some S,rfl,rfl,rfl,⟨by decide,rfl,rfl,rfl,rfl⟩,o,λp ho=>?_⟩
  conv=>whnf
  refine⟨_,_,_,.cons .same .nil,⟨k,rfl,rfl⟩,?_⟩
  conv=>whnf
  refine ag.nsb (λh=>?_) (λh=>?_)
  focus
   rw[if_neg (by rw[h];simp)]at a
   conv=>whnf
   exact no _ _ _ a rfl rfl rfl rfl rfl rfl
  conv=>whnf
  refine⟨_,_,_,.cons .same .nil,⟨l,rfl,s,rfl⟩,?_⟩
  conv=>whnf
  refine ag.nsb (λz2=>?_) (λz2=>?_)
  focus
   rw[if_neg (by rw[z2];simp)]at a
   conv=>whnf
   exact no _ _ _ a rfl rfl rfl rfl rfl rfl
  rw[if_pos (by rw[h,z2];rfl)]at a
  conv=>whnf
  refine⟨2,c.px,c.x,[.ss k],.sb (X.K k).isSome,rfl,by decide,by decide,.cons .same .nil,rfl,rfl,⟨k,rfl,congrArg AV.sb D.symm⟩,?_⟩
  conv=>whnf
  refine ag.sb (λi=>?_) (λi=>?_)
  focus
   rw[if_pos i]at a;injection a with e f;subst e f
   conv=>whnf
   exact⟨_,c,.told rfl,d,bQ rfl rfl rfl rfl rfl⟩
  rw[if_neg (by rw[i];simp)]at a;injection a with e f;subst e f
  have M:X.K k=none:=by cases q:X.K k with
   |none=>rfl
   |some y=>rw[q]at i;cases i
  obtain⟨ok,r⟩:=d.create (p:=p) (z:=z) M hn ho h z2;have j:mq c.x k l=(⟨eg (dq c.x.A k) k (cj l),c.x.w+8⟩,.si .i64 0):=by unfold mq;rw[if_pos (by rw[h,z2];rfl)]
  conv=>whnf
  refine Ask.mk _ (rm (m:=c.m) (g:=gE) (v:=⟨p,S,[],z⟩) (k:=k) bP nV rfl rfl rfl rfl) ?_
  conv=>whnf
  refine⟨2,c.px,c.x,[.ss k,gL l],_,_,_,rfl,by decide,by decide,.cons .same (.cons .same .nil),rfl,rfl,⟨k,l,_,rfl,s,E,j,rfl,rfl,rfl⟩,?_⟩
  conv=>whnf
  exact⟨_,{c with m:=c.m.put k ⟨p,S,[],z⟩,x:=⟨eg (dq c.x.A k) k (cj l),c.x.w+8⟩},.IV (b:=4) (m:=6) (A:=aH c.m.A) (C:=[]) (by decide) (by decide) (congrArg (λx=>some (AO.sep (aE x))) (q1e _).symm) rfl rfl,ok,bQ rfl rfl rfl rfl (congrArg (λx=>some (AO.sep (aE x))) r.symm)⟩
theorem YU:∀X cs a v,RA X cs a v->cs.all gj=true/\gj v=true/\∀c,SpB.ok X c->ax RB 5 46 (.ptr 0 0::cs) (mkH (bE (SpB.O c) 0)) 5 (gm SpB a v):=λX cs a v ⟨k,z,ret,pol,l,Y,b,d,e,f,g,h⟩=>by
 subst b g h;exact⟨rfl,rfl,λc i=>BM X k z ret pol l c i d e f⟩
theorem yg:al 46 (cK 5 SpB RA):=gu IW 5 (by kernel_rfl) SpB rfl (by decide) YU
def uX (X:SpV) (k:Tx) (ret pol:Int) (l:List Lab):SpV×Int:=match X.K k with
 |none=>(X,5)
 |some e=>if dR l=true then(if(jM e.S e.L ret pol).2≠0 then(X,(jM e.S e.L ret pol).2)else(crK X k ⟨(jM e.S e.L ret pol).1.1,(jM e.S e.L ret pol).1.2,e.z,cj l⟩,0))else(X,1)
def Xv(X:SpV)(cs:List AV)(a:SpV)(v:AV):Prop:=∃k ret pol l Y,cs=[.ss k,.si .i64 ret,.si .i64 pol,gL l]/\l.length<=1000/\X.n<1000/\Bnd X 40000/\uX X k ret pol l=Y/\a=Y.1/\v= .si .i64 Y.2
theorem OW{S S':Sr}{L a:Smp}{r p e:Int}(h:jM S L r p=((S',a),e))(b:e≠0):S'=S/\a=L:=by
 unfold jM at h;split at h
 all_goals(injection h with h1 h2;injection h1 with c d;first|exact⟨c.symm,d.symm⟩|exact absurd h2.symm b)
theorem OX(X:SpV)(k:Tx)(e y:fK):crK (fO X k e) k y=crK X k y:=by
 unfold crK fO;congr 1;funext x;dsimp only;split<;>rfl
theorem bA.Xw{X:SpV}{c:SpC}(h:bA X c){k:Tx}{e:fK}(b:X.K k=some e)(hn:X.n<1000){l:List Lab}:bA (crK X k {e with lab:=cj l}) {c with x:=⟨eg (dq c.x.A k) k (cj l),c.x.w+8⟩}:=by
 have d:=h.ml;have f:=h.xl;have i:=h.xw;have j:=h.gl;have p:=pD c.x.A k;refine⟨h.o,?_,h.gk,?_,?_,?_,?_,?_,λx=>?_,λx=>?_,h.R,h.dst,λx y a=>?_,λx y a=>?_,h.rul⟩
 ·exact sV (sU h.xk k) _ _
 ·show X.n+1<=1000;omega
 ·show c.m.A.length<=X.n+1;omega
 ·show(eg (dq c.x.A k) k (cj l)).length<=X.n+1;have:=sW (dq c.x.A k) k (cj l);omega
 ·show c.x.w+8<=8*(X.n+1);omega
 ·show c.g.length<=X.n+1;omega
 ·show(aD c.m.A x).map pB=((crK X k {e with lab:=cj l}).K x).map Gy;rw[h.K];by_cases q:x=k
  ·subst q;simp[crK,b,Gy]
  ·simp[crK,q]
 ·show aD (eg (dq c.x.A k) k (cj l)) x=((crK X k {e with lab:=cj l}).K x).map fK.lab;rw[m5 (sU h.xk k),p9 h.xk];by_cases q:x=k
  ·subst q;simp[crK]
  ·simp[crK,q,h.I x]
 ·simp only[crK]at a;by_cases q:x=k
  ·rw[if_pos q]at a;injection a with a;subst a;exact h.ser k e b
  ·rw[if_neg q]at a;exact h.ser x y a
 ·simp only[crK]at a;by_cases q:x=k
  ·subst q;exact h.key x e b
  ·rw[if_neg q]at a;exact h.key x y a
theorem Ep(X:SpV)(k:Tx)(ret pol:Int)(l:List Lab)(c:SpC)(b:bA X c)(u:l.length<=1000)(hn:X.n<1000)(C:Bnd X 40000){Y:SpV×Int}(a:uX X k ret pol l=Y):ax RB 5 47 [.ptr 0 0,.ss k,.si .i64 ret,.si .i64 pol,gL l] (mkH (bE (spO c) 0)) 5 (gm SpB Y.1 (.si .i64 Y.2)):=by
 obtain⟨D,P⟩:=Y;have j:=b.has k;have E:c.x.w<800000:=by have:=b.xw;have:=b.n9;omega
 unfold uX at a;cases d:X.K k with
 |none=>
  rw[d]at j a;injection a with e1 e2;subst e1 e2
  conv=>whnf
  refine⟨2,c.px,c.x,[.ss k],.sb false,rfl,by decide,by decide,.cons .same .nil,rfl,rfl,⟨k,rfl,congrArg AV.sb j.symm⟩,?_⟩
  conv=>whnf
  refine ag.nsb (λz=>?_) (λz=>?_)
  focus
   conv=>whnf
   exact⟨_,c,.told rfl,b,bQ rfl rfl rfl rfl rfl⟩
  cases z
 |some e=>
  rw[d]at j a;dsimp only at a;obtain⟨o,F,G,v,r,H,I⟩:=b.at1 d;have J:=C k e d
  conv=>whnf
  refine⟨2,c.px,c.x,[.ss k],.sb true,rfl,by decide,by decide,.cons .same .nil,rfl,rfl,⟨k,rfl,congrArg AV.sb j.symm⟩,?_⟩
  conv=>whnf
  refine ag.nsb (λz=>?_) (λz=>?_)
  focus
   cases z
  conv=>whnf
  refine⟨_,_,_,.cons .same .nil,⟨l,rfl,u,rfl⟩,?_⟩
  conv=>whnf
  refine ag.nsb (λz2=>?_) (λz2=>?_)
  focus
   rw[if_neg (by rw[z2];simp)]at a;injection a with e1 e2;subst e1 e2
   conv=>whnf
   exact⟨_,c,.told rfl,b,bQ rfl rfl rfl rfl rfl⟩
  rw[if_pos z2]at a;obtain⟨Z,s⟩:∃Z,Z=jM e.S e.L ret pol:=⟨_,rfl⟩;rw[<-s]at a;obtain⟨⟨f,h⟩,M⟩:=Z;dsimp only at a
  conv=>whnf
  refine Ask.mk _ (bb (m:=c.m) (g:=gE) (k:=k) bP nV rfl rfl rfl qe v) ?_
  conv=>whnf
  refine⟨4,aH F,aH G,o,e.S,e.L,ret,pol,f,h,M,rfl,by decide,by decide,rfl,congrArg (λx=>some (AO.sep (aE x))) I,rfl,rfl,J,s.symm,λho=>?_⟩;obtain⟨t,y,B⟩:=b.x9 d v r H ho
  conv=>whnf
  refine ag.du (λp=>?_) (λp=>?_)
  focus
   rw[if_pos p]at a;injection a with e1 e2;subst e1 e2
   have N:fO X k {e with S:=f,L:=h}=X:=by
    obtain⟨r,O⟩:f=e.S/\h=e.L:=OW s.symm p;rw[r,O];exact BJ d
   rw[N]at t
   conv=>whnf
   exact⟨_,{c with m:=c.m.put k ⟨o,f,h,e.z⟩},.told rfl,t,bQ rfl (congrArg some y.symm) rfl rfl (congrArg (λx=>some (AO.sep (aE x))) B.symm)⟩
  rw[if_neg (λq=>q p)]at a;injection a with e1 e2;have ok:=t.Xw (k:=k) (e:={e with S:=f,L:=h}) (by rw[fC,if_pos rfl]) hn (l:=l);rw[OX]at ok;have ok:bA D {c with m:=c.m.put k ⟨o,f,h,e.z⟩,x:=⟨eg (dq c.x.A k) k (cj l),c.x.w+8⟩}:=by rw[<-e1];exact ok
  subst e2;have i:mq c.x k l=(⟨eg (dq c.x.A k) k (cj l),c.x.w+8⟩,.si .i64 0):=by unfold mq;rw[if_pos (by rw[b.key _ _ d,z2];rfl)]
  conv=>whnf
  refine⟨2,c.px,c.x,[.ss k,gL l],_,_,_,rfl,by decide,by decide,.cons .same (.cons .same .nil),rfl,rfl,⟨k,l,_,rfl,u,E,i,rfl,rfl,rfl⟩,?_⟩
  conv=>whnf
  exact⟨_,{c with m:=c.m.put k ⟨o,f,h,e.z⟩,x:=⟨eg (dq c.x.A k) k (cj l),c.x.w+8⟩},.told rfl,ok,bQ rfl (congrArg some y.symm) rfl rfl (congrArg (λx=>some (AO.sep (aE x))) B.symm)⟩
theorem Lb:al 47 (cK 5 SpB Xv):=gu IW 5 (by kernel_rfl) SpB rfl (by decide) λX cs j v ⟨k,ret,pol,l,Y,a,b,d,e,f,g,h⟩=>by
 subst a g h;exact⟨rfl,rfl,λc i=>Ep X k ret pol l c i b d e f⟩
def rlF (X:SpV) (r:Rl):SpV×Int:=
 if cU r=true then(if(X.K r.src).isSome=true/\(X.K r.dst).isSome=true then(if(X.R r.dst).isSome=true then(X,6)else if(X.R r.src).isSome=true∨0<(ofX X r.dst).length then(X,10)else({qg X r.dst (some r)with n:=X.n+1},0))else(X,5))else(X,1)
def Vp(X:SpV)(cs:List AV)(a:SpV)(v:AV):Prop:=∃r Y,cs=[gR r]/\X.n<1000/\rlF X r=Y/\a=Y.1/\v= .si .i64 Y.2
def Vq:FuncId->EP:=aX 38 [] (ao 89 (bV U3) (da 84 (dM 4 IxB KY) (ao 90 (cK 2 GrB SY) evP)))
theorem RD:aS Vq:=au (ab (bf (ab az Ro) sO (Gf _ _ _)) Xk) (by kernel_rfl) (by kernel_rfl)
theorem Vr{X:SpV}{c:SpC}(h:bA X c){r:Rl}(a:cU r=true):BF c.g r=(if(X.R r.dst).isSome=true then(c.g,.si .i64 6)else if(X.R r.src).isSome=true∨0<(ofX X r.dst).length then(c.g,.si .i64 10)else(eg c.g r.dst r,.si .i64 0)):=by
 unfold BF;rw[if_neg (by rw[a];simp),h.R,h.R,h.of]
theorem BN(X:SpV)(r:Rl)(c:SpC)(a:bA X c)(hn:X.n<1000){Y:SpV×Int}(b:rlF X r=Y):ax Vq 5 38 [.ptr 0 0,gR r] (mkH (bE (spO c) 0)) 5 (gm SpB Y.1 (.si .i64 Y.2)):=by
 obtain⟨G,H⟩:=Y;have u:=a.has r.src;have v:=a.has r.dst;have l:c.g.length<=1000:=q0d a.gl a.n9;unfold rlF at b
 conv=>whnf
 refine⟨_,_,_,.cons .same .nil,⟨r,rfl,rfl⟩,?_⟩
 conv=>whnf
 refine ag.nsb (λk=>?_) (λk=>?_)
 focus
  rw[if_neg (by rw[k];simp)]at b;injection b with f h;subst f h
  conv=>whnf
  exact⟨_,c,.told rfl,a,bQ rfl rfl rfl rfl rfl⟩
 rw[if_pos k]at b
 conv=>whnf
 refine⟨2,c.px,c.x,[.ss r.src],.sb (X.K r.src).isSome,rfl,by decide,by decide,.cons .same .nil,rfl,rfl,⟨r.src,rfl,congrArg AV.sb u.symm⟩,?_⟩
 conv=>whnf
 refine ag.nsb (λz2=>?_) (λz2=>?_)
 focus
  rw[if_neg (λq=>by rw[z2]at q;cases q.1)]at b;injection b with f h;subst f h
  conv=>whnf
  exact⟨_,c,.told rfl,a,bQ rfl rfl rfl rfl rfl⟩
 conv=>whnf
 refine⟨2,c.px,c.x,[.ss r.dst],.sb (X.K r.dst).isSome,rfl,by decide,by decide,.cons .same .nil,rfl,rfl,⟨r.dst,rfl,congrArg AV.sb v.symm⟩,?_⟩
 conv=>whnf
 refine ag.nsb (λp=>?_) (λp=>?_)
 focus
  rw[if_neg (λq=>by rw[p]at q;cases q.2)]at b;injection b with f h;subst f h
  conv=>whnf
  exact⟨_,c,.told rfl,a,bQ rfl rfl rfl rfl rfl⟩
 rw[if_pos ⟨z2,p⟩]at b;have i:=Vr a k
 conv=>whnf
 by_cases s:(X.R r.dst).isSome=true
 ·rw[if_pos s]at b i;injection b with f h;subst f h;refine⟨3,c.pg,c.g,[gR r],_,_,_,rfl,by decide,by decide,.cons .same .nil,rfl,rfl,⟨r,_,rfl,l,i,rfl,rfl,rfl⟩,?_⟩
  conv=>whnf
  exact⟨_,c,.told rfl,a,bQ rfl rfl rfl rfl rfl⟩
 ·rw[if_neg s]at b i;by_cases t:(X.R r.src).isSome=true∨0<(ofX X r.dst).length
  ·rw[if_pos t]at b i;injection b with f h;subst f h;refine⟨3,c.pg,c.g,[gR r],_,_,_,rfl,by decide,by decide,.cons .same .nil,rfl,rfl,⟨r,_,rfl,l,i,rfl,rfl,rfl⟩,?_⟩
   conv=>whnf
   exact⟨_,c,.told rfl,a,bQ rfl rfl rfl rfl rfl⟩
  ·rw[if_neg t]at b i;injection b with f h;subst f h
   have ok:bA {qg X r.dst (some r)with n:=X.n+1} {c with g:=eg c.g r.dst r}:=by
    have z:=a.ml;have B:=a.xl;have C:=a.xw;have D:=a.gl;have E:=sW c.g r.dst r;refine⟨a.o,a.xk,sV a.gk _ _,?_,?_,?_,?_,?_,a.K,a.I,λd=>?_,λe F=>?_,a.ser,a.key,λd y j=>?_⟩
    ·show X.n+1<=1000;omega
    ·show c.m.A.length<=X.n+1;omega
    ·show c.x.A.length<=X.n+1;omega
    ·show c.x.w<=8*(X.n+1);omega
    ·show(eg c.g r.dst r).length<=X.n+1;omega
    ·show aD (eg c.g r.dst r) d=if d=r.dst then some r else X.R d
     rw[m5 a.gk,a.R]
    ·have:=cV (sV a.gk r.dst r) (show(e.1,e.2)∈eg c.g r.dst r from F);rw[m5 a.gk]at this;split at this
     ·rename_i q;injection this with this;rw[q,<-this]
     ·exact a.dst e (bJ this)
    ·have j:(if d=r.dst then some r else X.R d)=some y:=j;split at j
     ·injection j with j;subst j;exact k
     ·exact a.rul d y j
   refine⟨3,c.pg,c.g,[gR r],_,_,_,rfl,by decide,by decide,.cons .same .nil,rfl,rfl,⟨r,_,rfl,l,i,rfl,rfl,rfl⟩,?_⟩
   conv=>whnf
   exact⟨_,{c with g:=eg c.g r.dst r},.told rfl,ok,bQ rfl rfl rfl rfl rfl⟩
theorem YV:∀X cs a v,Vp X cs a v->cs.all gj=true/\gj v=true/\∀c,SpB.ok X c->ax Vq 5 38 (.ptr 0 0::cs) (mkH (bE (SpB.O c) 0)) 5 (gm SpB a v):=λX cs a v ⟨r,Y,b,d,e,f,g⟩=>by
 subst b f g;exact⟨rfl,rfl,λc h=>BN X r c h d e⟩
theorem GC:al 38 (gM 5 SpB Vp):=uL (ay RD 5 _) (by kernel_rfl) SpB rfl (by decide) YV
def uO(B:Smp->List AV->Smp->Prop)(args:List AV)(H:AH)(n:Nat)(κ:PK):Prop:=match args with
 |x::a=>∃(b:Nat) (A C:List HP) (p:Nat×Nat) (S:Sr) (L O:Smp),x=aA p/\b<n/\n<700000/\ia H 5 n=true/\H.get b=some (.sep (aE (A++cn p S L::C)))/\B L a O/\κ (.fr O.length 2 (smp O)) H (n+5)
 |_=>False
theorem GD(B:Smp->List AV->Smp->Prop):iC (uO B):=λargs H n l a=>by
 unfold uO at*;split at a
 ·obtain⟨b,A,C,p,S,L,O,c,d,e,f,g,i,j⟩:=a;exact⟨_,_,_,j,λ_ _ h=>h,q1c _ _,λk h=>⟨b,A,C,p,S,L,O,c,d,e,f,g,i,h⟩⟩
 ·exact a.elim
theorem al.qf{f:FuncId}{B:Smp->List AV->Smp->Prop}(h:al f (ya B)):al f (uO B):=λargs H n κ c F t G I K J a M=>by
 unfold uO at c;split at c
 ·rename_i x N;obtain⟨b,A,C,p,S,L,O,P,Q,R,v,T,U,V⟩:=c;refine h (x::N) H n (λu D E=>u= .rw (n+4) 0 O.length 2 0/\D=H.set (some (.cells (smp O) true)) aa (n+4)/\E=n+5) ⟨b,A,C,p,S,L,O,P,Q,R,v,T,U,rfl,rfl,rfl⟩ F t G I K J a λW u D E w g d X Y ⟨Z,e2,e3⟩=>?_
  subst Z e2 e3;obtain⟨χ,l,i,j⟩:=Re.row (x:=0) (z:=true) (H:=H.set (some (.cells (smp O) true)) aa (n+4)) (b:=n+4) (m:=O.length) (k:=2) (l:=smp O) (s:=smp O) (PM.geq (by omega)) (ck O) (bg O) rfl (by decide) W t g w X Y
  refine M χ _ H _ w g (d.trans l) (i.less λy o r=>?_) j V;have q:y≠n+4:=λe=>by subst e;rw[eJ (k:=4) v (by decide)]at r;cases r
  exact PM.gne (by omega) q (PM.gne (by omega) q r)
 ·exact c.elim
theorem OY:al 21 (uO D3):=S1.qf
def cO(r:Rl)(s:Int×SpV)(x:Int×Int):Int×SpV:=if s.1<bB r x.1 then(bB r x.1,cq s.2 r (bB r x.1))else s
def sX(r:Rl)(X:SpV)(L:Smp):Int×SpV:=L.foldl (cO r) (-1,X)
theorem Lc{r:Rl}{X:SpV}{L:Smp}{i:Nat}(h:i<L.length):sX r X (L.take (i+1))=cO r (sX r X (L.take i)) L[i]:=by
 unfold sX;rw[q0c h,q3b];rfl
theorem nW{r:Rl}{k:Tx}:∀(L:Smp) {s:Int×SpV} {b:Nat},Bnd s.2 b→-1<=s.1->(L.foldl (cO r) s).2.R=s.2.R/\(L.foldl (cO r) s).2.n=s.2.n/\(∀x,((L.foldl (cO r) s).2.K x).isSome=(s.2.K x).isSome)/\(∀x,x≠r.dst->(L.foldl (cO r) s).2.K x=s.2.K x)/\Bnd (L.foldl (cO r) s).2 (b+L.length)∧-1<=(L.foldl (cO r) s).1
 | [],s,b,c,d=>⟨rfl,rfl,λ_=>rfl,λ_ _=>rfl,c,d⟩
 |x::L,s,b,c,d=>by
  rw[List.foldl_cons];have p:=jz (t:=x.1) (s:=r.size) (a:=r.align);by_cases q:s.1<bB r x.1
  ·have e:cO r s x=(bB r x.1,cq s.2 r (bB r x.1)):=if_pos q;rw[e];obtain⟨f,g,h,i,j,l⟩:=nW (k:=k) L (s:=(bB r x.1,cq s.2 r (bB r x.1))) (m6 c) (by show-1<=bB r x.1;unfold bB;omega);refine⟨f.trans iY.1,g.trans iY.2,λy=>(h y).trans js,λy m=>(i y m).trans (pE m),?_,l⟩;rw[q0a,show b+(L.length+1)=b+1+L.length by omega];exact j
  ·have e:cO r s x=s:=if_neg q;rw[e];obtain⟨f,g,h,i,j,l⟩:=nW (k:=k) L c d;exact⟨f,g,h,i,λy z o=>by have:=j y z o;rw[q0a];omega,l⟩
def OZ(X:SpV)(cs:List AV)(a:SpV)(v:AV):Prop:=∃r L,cs=[gR r,.fr L.length 2 (smp L)]/\L.length<=5000/\r.src≠r.dst/\(X.K r.src).isSome=true/\(X.K r.dst).isSome=true/\Bnd X 25000/\a=(sX r X L).2/\v= .tup []
def Xx:FuncId->EP:=aX 102 [] (ao 75 (gM 5 SpB Vj) (da 54 (wE fX) evP))
theorem RE:aS Xx:=au (ab (bf az AK CV) OP) (by kernel_rfl) (by kernel_rfl)
def alL (c:SpC) (r:Rl) (L:Smp) (i:Nat) (last:Int):AE×AH:=(mkE [(0,.ptr 0 (0)),(4,.ptr 5 (0)),(6,.si .i64 (last)),(10,.fr L.length 2 (smp L)),(11,.si .i64 ((L.length:Int))),(12,.si .i64 ((i:Int)))],mkH [(0,.cells [.map 1,aA c.px,aA c.pg] true),(1,c.m.O kT gE),(2,.sep (IxB.Q c.x c.px)),(3,.sep (GrB.Q c.g c.pg)),(4,.sep (aE (aH c.m.A))),(5,.cells (ruC r) true)])
theorem BO{c:SpC}{r:Rl}{L:Smp}{i:Nat}{last:Int}{p n:Nat}{σ:AE}{H:AH}(e:p<=6)(e0:ai (pa 0) σ= .ptr 0 (0))(f:ai (pa 4) σ= .ptr 5 (0))(h:mk (ai (pa 6) σ)= .si .i64 (last))(a:ai (pa 10) σ= .fr L.length 2 (smp L))(b:mk (ai (pa 11) σ)= .si .i64 ((L.length:Int)))(d:mk (ai (pa 12) σ)= .si .i64 ((i:Int)))(j:H.get 0=some (.cells [.map 1,aA c.px,aA c.pg] true))(k:H.get 1=some (c.m.O kT gE))(l:H.get 2=some (.sep (IxB.Q c.x c.px)))(o:H.get 3=some (.sep (GrB.Q c.g c.pg)))(q:H.get 4=some (.sep (aE (aH c.m.A))))(s:H.get 5=some (.cells (ruC r) true)):Cov p σ H n ((alL c r L i last).1,(alL c r L i last).2,6):=
 Cov.ofA e ⟨.ptr (by decide) e0,.ptr (by decide) f,.int h,ae.frE a,.int b,.int d,trivial⟩ ⟨.inl ⟨_,j,ak.refl rfl⟩,.inl ⟨_,k,ak.refl (aC bK iG)⟩,.inl ⟨_,l,ak.sep _⟩,.inl ⟨_,o,ak.sep _⟩,.inl ⟨_,q,ak.sep _⟩,.inl ⟨_,s,ak.refl rfl⟩,trivial⟩ rfl
theorem Ld(X:SpV)(r:Rl)(L:Smp)(c:SpC)(E:bA X c)(R:L.length<=5000)(F:r.src≠r.dst)(G:(X.K r.src).isSome=true)(hd:(X.K r.dst).isSome=true)(H:Bnd X 25000):ax Xx 6 102 [.ptr 0 0,gR r,.fr L.length 2 (smp L)] (mkH (bE (spO c) 0)) 5 (gm SpB (sX r X L).2 (.tup [])):=by
 conv=>whnf
 refine aN.mk {w:Nat×SpC×Int//w.1<=L.length/\bA (sX r X (L.take w.1)).2 w.2.1/\w.2.2=(sX r X (L.take w.1)).1} 6 (λw=>alL w.val.2.1 r L w.val.1 w.val.2.2) (λw=>L.length-w.val.1) ⟨(0,c,-1),Z9 _,E,rfl⟩ ?_ ?_
 focus
  exact BO (c:=c) (r:=r) (L:=L) (i:=0) (last:= -1) (by decide) rfl rfl rfl rfl rfl rfl rfl rfl rfl rfl rfl rfl
 intro⟨(i,j,f),x,b,a⟩;have x:i<=L.length:=x;obtain⟨Z,l⟩:∃Z,Z=sX r X (L.take i):=⟨_,rfl⟩;have b:bA Z.2 j:=by rw[l];exact b
 have a:f=Z.1:=by rw[l];exact a
 obtain⟨I,J,t,M,A,N⟩:=nW (r:=r) (k:=r.src) (L.take i) (s:=(-1,X)) H (Int.le_refl _);have u:(L.take i).foldl (cO r) (-1,X)=Z:=by rw[l];rfl
 rw[u]at I J t M A N;have B:Bnd Z.2 30000:=λy z O=>q0d (A y z O) (by rw[q0l];omega)
 have C:IntKind.i64.wrap ((i:Int)+1)=((i+1:Nat):Int):=by rw[aj (by omega) (by omega)];omega
 conv=>whnf
 refine ag.dec (λh=>?_) (λh=>?_)
 focus
  have m:i<L.length:=q0v.1 h;have n:L.length-(i+1)<L.length-i:=by omega
  have sub:=fG m rfl
  have g:=Lc (r:=r) (X:=X) m;rw[<-l]at g;obtain⟨s,o⟩:=q0s.1 (show(Z.2.K r.src).isSome=true by rw[t];exact G);obtain⟨d,p⟩:=q0s.1 (show(Z.2.K r.dst).isSome=true by rw[t];exact hd);have ls:=B _ _ o;have P:=B _ _ p
  conv=>whnf
  refine Idx.mk i rfl m ?_
  conv=>whnf
  refine aq sub ?_
  conv=>whnf
  refine ag.dec (λz=>?_) (λz=>?_)
  focus
   have e:cO r Z L[i]=(bB r L[i].1,cq Z.2 r (bB r L[i].1)):=if_pos (by rw[<-a];exact z);rw[e]at g
   conv=>whnf
   refine⟨Z.2,[gR r,.si .i64 (bB r L[i].1)],cq Z.2 r (bB r L[i].1),.tup [],_,j,rfl,by decide,.cons .same (.cons .same .nil),b,tY rfl rfl rfl rfl rfl,⟨r,bB r L[i].1,s,d,rfl,o,p,ls,P,rfl,rfl⟩,λD v=>?_⟩
   conv=>whnf
   exact⟨⟨(i+1,D,bB r L[i].1),m,by rw[g];exact v,by rw[g]⟩,n,BO (c:=D) (r:=r) (L:=L) (i:=i+1) (last:=bB r L[i].1) (by decide) rfl rfl rfl rfl rfl (congrArg (AV.si .i64) C) rfl rfl rfl rfl rfl rfl⟩
  have e:cO r Z L[i]=Z:=if_neg (by rw[<-a];exact z);rw[e]at g
  conv=>whnf
  exact⟨⟨(i+1,j,f),m,by rw[g];exact b,by rw[g];exact a⟩,n,BO (c:=j) (r:=r) (L:=L) (i:=i+1) (last:=f) (by decide) rfl rfl rfl rfl rfl (congrArg (AV.si .i64) C) rfl rfl rfl rfl rfl rfl⟩
 have Q:i=L.length:=by have h:¬(i:Int)<(L.length:Int):=h;omega
 have q:bA (sX r X L).2 j:=by have:=b;rw[l,Q,q0u]at this;exact this
 conv=>whnf
 exact⟨_,j,.told rfl,q,bQ rfl rfl rfl rfl rfl⟩
theorem IX:al 102 (gM 5 SpB OZ):=uL (ay RE 6 _) (by kernel_rfl) SpB rfl (by decide) λX cs k v ⟨r,L,a,b,d,e,f,g,h,i⟩=>by
 subst a h i;exact⟨rfl,rfl,λc j=>Ld X r L c j b d e f g⟩
def Er(X:SpV)(k:Tx)(e:fK):SpV:=fO X k {e with L:=aO e.L 0 1099511627776}
def lkF (X:SpV) (r:Rl):SpV×Int:=if(rlF X r).2≠0 then rlF X r else match(rlF X r).1.K r.dst,(rlF X r).1.K r.src with
 |some d,some s=>((sX r (Er (rlF X r).1 r.dst d) (bH 0 1099511627776 s.L)).2,0)
 |_,_=>rlF X r
def Vs(X:SpV)(cs:List AV)(a:SpV)(v:AV):Prop:=∃r Y,cs=[gR r]/\X.n<1000/\Bnd X 5000/\lkF X r=Y/\a=Y.1/\v= .si .i64 Y.2
def O0:DT:=[(4,[(some 0,[0]),(some 0,[12]),(some 0,[13]),(some 0,[14]),(some 0,[3]),(some 0,[16]),(some 0,[15,17]),(some 0,[18])]),
 (5,[(some 0,[0]),(some 0,[3]),(some 0,[0]),(some 0,[23]),(some 0,[24]),(some 0,[25]),(some 0,[3]),(some 0,[27]),(some 0,[26,28]),(some 0,[29]),(none,[30])])]
def Xy:FuncId->EP:=aX 48 O0 (ao 38 (gM 5 SpB Vp) (da 21 (uO D3) (ao 100 zT (ao 102 (gM 5 SpB OZ) evP))))
theorem RF:aS Xy:=au (ab (bf (ab (ab az IX) BI) OY (GD _)) GC) (by kernel_rfl) (by kernel_rfl)
theorem Vt{X:SpV}{r:Rl}(h:(rlF X r).2=0):cU r=true/\(X.K r.src).isSome=true/\(X.K r.dst).isSome=true/\(rlF X r).1={qg X r.dst (some r)with n:=X.n+1}:=by
 unfold rlF at*;split at h
 ·rename_i b;rw[if_pos b];split at h
  ·rename_i a;rw[if_pos a];split at h
   ·cases h
   ·rename_i c;rw[if_neg c];split at h
    ·cases h
    ·rename_i d;rw[if_neg d];exact⟨b,a.1,a.2,rfl⟩
  ·cases h
 ·cases h
theorem GF(X:SpV)(r:Rl)(c:SpC)(hc:bA X c)(hn:X.n<1000)(N:Bnd X 5000){Y:SpV×Int}(h:lkF X r=Y):ax Xy 6 48 [.ptr 0 0,gR r] (mkH (bE (spO c) 0)) 5 (gm SpB Y.1 (.si .i64 Y.2)):=by
 obtain⟨Y1,Y2⟩:=Y;have l:=Vt (X:=X) (r:=r);unfold lkF at h;obtain⟨Z,W⟩:∃Z,Z=rlF X r:=⟨_,rfl⟩;rw[<-W]at h l;obtain⟨D,Z2⟩:=Z;dsimp only at h l
 conv=>whnf
 refine⟨X,[gR r],D,.si .i64 Z2,_,c,rfl,by decide,.cons .same .nil,hc,tY rfl rfl rfl rfl rfl,⟨r,_,rfl,hn,W.symm,rfl,rfl⟩,λf o=>?_⟩
 conv=>whnf
 refine ag.du (λI=>?_) (λI=>?_)
 focus
  rw[if_pos I]at h;injection h with e1 e2;subst e1 e2
  conv=>whnf
  exact⟨_,f,.told rfl,o,bQ rfl rfl rfl rfl rfl⟩
 rw[if_neg (λq=>q I)]at h;obtain⟨h1,h2,h3,h4⟩:=l I;have p:D.K=X.K:=by rw[h4];rfl
 obtain⟨s,hs⟩:=q0s.1 h2;obtain⟨d,hd⟩:=q0s.1 h3;have E:D.K r.src=some s:=by rw[p];exact hs
 have t:D.K r.dst=some d:=by rw[p];exact hd
 rw[E,t]at h;dsimp only at h;injection h with e1 e2;subst e1 e2;have F:=qa h1;have ls:=N _ _ hs;have ld:=N _ _ hd;obtain⟨J,P,Q,g2,a2,u2,q2⟩:=o.at1 t;obtain⟨j,u⟩:∃j,j=aO d.L 0 1099511627776:=⟨_,rfl⟩
 conv=>whnf
 refine Ask.mk _ (bb (m:=f.m) (g:=gE) (k:=r.dst) bP nV rfl rfl rfl qe g2) ?_
 conv=>whnf
 refine⟨4,aH P,aH Q,J,d.S,d.L,0,1099511627776,j,_,rfl,by decide,by decide,rfl,congrArg (λx=>some (AO.sep (aE x))) q2,rfl,rfl,by omega,u.symm,rfl,λho=>?_⟩;obtain⟨M,k2,k3⟩:=o.x9 t g2 a2 u2 ho;obtain⟨v,w⟩:∃v,v=Er D r.dst d:=⟨_,rfl⟩;have b:fO D r.dst {d with S:=d.S,L:=j}=v:=by rw[w,u];rfl
 rw[b]at M;rw[<-w];obtain⟨e,i⟩:∃e:SpC,e={f with m:=f.m.put r.dst ⟨J,d.S,j,d.z⟩}:=⟨_,rfl⟩;rw[<-i]at M;have G:f.m.O kT gE=e.m.O kT gE:=by rw[i];exact k2.symm
 have B:aH P++cn J d.S j::aH Q=aH e.m.A:=by rw[i];exact k3.symm
 have a:f.px=e.px/\f.pg=e.pg/\f.x=e.x/\f.g=e.g:=by rw[i];exact⟨rfl,rfl,rfl,rfl⟩
 have H:v.K r.src=some s:=by rw[w];unfold Er;rw[fC,if_neg F];exact E
 have R:j.length<=5000:=by rw[u];exact q0d (q1h _ _) ld
 have T:Bnd v 25000:=λx y C=>by
  rw[<-b,fC]at C;split at C
  ·injection C with C;subst C;exact q0d R (by decide)
  ·rw[p]at C;exact q0d (N x y C) (by decide)
 have U:(v.K r.dst).isSome=true:=by rw[<-b,fC,if_pos rfl];rfl
 obtain⟨p1,A1,A2,g1,a1,u1,q1⟩:=M.at1 H;have hO:(PM.set (some (.sep (aE (aH P++cn J d.S j::aH Q)))) aa (mkH (bE (spO f) 0)) 4).get 4=some (.sep (aE (aH e.m.A))):=congrArg (λx=>some (AO.sep (aE x))) B
 conv=>whnf
 refine Ask.mk _ (bb (m:=e.m) (g:=gE) (k:=r.src) bP nV rfl rfl (congrArg some G) qe g1) ?_
 conv=>whnf
 refine⟨4,aH A1,aH A2,p1,s.S,s.L,bH 0 1099511627776 s.L,rfl,by decide,by decide,rfl,congrArg (λx=>some (AO.sep (aE x))) (B.trans q1),⟨_,_,0,1099511627776,rfl,rfl,rfl,rfl⟩,?_⟩
 conv=>whnf
 refine⟨v,[gR r,.fr (bH 0 1099511627776 s.L).length 2 (smp (bH 0 1099511627776 s.L))],_,.tup [],_,e,rfl,by decide,.cons .same (.cons .same .nil),M,tY ?_ (congrArg some G) ?_ ?_ (congrArg (λx=>some (AO.sep (aE x))) B),⟨r,bH 0 1099511627776 s.L,rfl,q0d (q1h _ _) ls,F,by rw[H];rfl,U,T,rfl,rfl⟩,λc3 V=>?_⟩
 ·rw[<-a.1,<-a.2.1];exact rfl
 ·rw[<-a.1,<-a.2.2.1];exact rfl
 ·rw[<-a.2.1,<-a.2.2.2];exact rfl
 conv=>whnf
 exact⟨_,c3,.told rfl,V,bQ rfl rfl rfl rfl rfl⟩
theorem Es:al 48 (cK 5 SpB Vs):=gu RF 6 (by kernel_rfl) SpB rfl (by decide) λX cs i v ⟨r,Y,a,b,d,e,f,g⟩=>by
 subst a f g;exact⟨rfl,rfl,λc h=>GF X r c h b d e⟩
theorem Vu{R:Gr}{so:Rl->Bool}(l:(R.map Prod.fst).Nodup)(hd:∀e∈R,e.2.dst=e.1):((pkF R so).map Rl.dst).Nodup:=by
 have m:=tZ (ba ((R.filter λe=>so e.2).map Prod.fst)).1;have n:=tZ (ba ((R.filter λe=>so e.2).map λe=>e.2.src)).1
 have f:∀d∈aK ((R.filter λe=>so e.2).map Prod.fst),(rul R d).dst=d:=λd h=>by
  rw[(ba _).2,q0p]at h;obtain⟨e,j,rfl⟩:=h;have c:=cV l (show(e.1,e.2)∈R from(q1d.1 j).1);unfold rul;rw[c];exact hd e (q1d.1 j).1
 have o:∀s,(pkS (aK ((R.filter λe=>so e.2).map Prod.fst)) R s).map Rl.dst=(aK ((R.filter λe=>so e.2).map Prod.fst)).filter λd=>decide ((rul R d).src=s):=λs=>by
  unfold pkS;rw[q4l]
  conv=>rhs;rw[<-List.map_id (List.filter _ _)]
  exact q3i λd g=>f d (q1d.1 g).1
 unfold pkF;rw[List.map_flatMap];have p:(λs=>(pkS (aK ((R.filter λe=>so e.2).map Prod.fst)) R s).map Rl.dst)=λs=>(aK ((R.filter λe=>so e.2).map Prod.fst)).filter λd=>decide ((rul R d).src=s):=funext o
 rw[p];refine List.pairwise_flatMap.2 ⟨λs _=>m.filter _,n.imp λ{a b} i x r y t q=>?_⟩;subst q;have c:=(q1d.1 r).2;have k:=(q1d.1 t).2;simp only[decide_eq_true_eq]at c k;exact i (c.symm.trans k)
theorem bA.Xz{X:SpV}{c:SpC}(h:bA X c)(k:Tx):((ofX X k).map Rl.dst).Nodup:=by
 rw[<-h.of];exact Vu h.gk h.dst
theorem Le{X:SpV}{r:Rl}{t:Int}{e:fK}(h:(cq X r t).K r.dst=some e):∃d,X.K r.dst=some d/\e.L.length<=d.L.length+1:=by
 unfold cq at h;split at h
 ·rename_i s d b a;rw[fC,if_pos rfl]at h;injection h with h;subst h;refine⟨d,a,?_⟩;show(gO r t s d).2.length<=_;unfold gO;split
  ·exact q2v _
  ·split
   ·exact sD _ _ _ _ _
   ·exact q0d (q1h _ _) (q2v _)
 ·exact⟨e,h,q2v _⟩
theorem Et{r:Rl}:∀(L:Smp) {s:Int×SpV} {e:fK},((L.foldl (cO r) s).2.K r.dst=some e)->∃d,s.2.K r.dst=some d/\e.L.length<=d.L.length+L.length
 | [],s,e,h=>⟨e,h,Z3 _⟩
 |x::L,s,e,h=>by
  obtain⟨d,a,f⟩:=Et L h;rw[q0a];unfold cO at a;split at a
  ·obtain⟨b,c,g⟩:=Le a;exact⟨b,c,by omega⟩
  ·exact⟨d,a,by omega⟩
def dF(gone:Smp)(X:SpV)(r:Rl):SpV:=(sX r X gone).2
theorem yh{gone:Smp}{b:Nat}:∀(a:List Rl) {X:SpV},(a.map Rl.dst).Nodup->(∀x e,X.K x=some e->e.L.length<=b+gone.length/\(x∈a.map Rl.dst->e.L.length<=b))->(a.foldl (dF gone) X).R=X.R/\(a.foldl (dF gone) X).n=X.n/\(∀x,((a.foldl (dF gone) X).K x).isSome=(X.K x).isSome)/\(∀x,x∉a.map Rl.dst->(a.foldl (dF gone) X).K x=X.K x)/\Bnd (a.foldl (dF gone) X) (b+gone.length)
 | [],X,_,h=>⟨rfl,rfl,λ_=>rfl,λ_ _=>rfl,λx e c=>(h x e c).1⟩
 |r::a,X,nd,h=>by
  rw[q1y,q3d]at nd;obtain⟨m,o,p,i,_,_⟩:=nW (r:=r) (k:=r.src) gone (s:=(-1,X)) (b:=b+gone.length) (λx e c=>(h x e c).1) (Int.le_refl _)
  have t:∀x e,(dF gone X r).K x=some e->e.L.length<=b+gone.length/\(x∈a.map Rl.dst->e.L.length<=b):=λx e c=>by
   by_cases q:x=r.dst
   ·subst q;obtain⟨d,f,j⟩:=Et gone c;have:=(h _ d f).2 (by simp);exact⟨by omega,λq=>absurd q nd.1⟩
   ·have g:X.K x=some e:=(i x q).symm.trans c;obtain⟨f,j⟩:=h x e g;exact⟨f,λu=>j (by rw[q1y];exact q0f _ u)⟩
  obtain⟨v,w,y,z,A⟩:=yh a nd.2 t;exact⟨v.trans m,w.trans o,λx=>(y x).trans (p x),λx l=>(z x λq=>l (by rw[q1y];exact q0f _ q)).trans (i x λq=>l (by rw[q];simp)),A⟩
def sY (X:SpV) (k:Tx) (a b:Int):SpV×Int×Int:=if dD X k≠0 then(X,0,dD X k)else match X.K k with
 |none=>(X,0,5)
 |some e=>((ofX X k).foldl (dF (bH a b e.L)) (fO X k {e with L:=aO e.L a b}),((e.L.length-(aO e.L a b).length:Nat):Int),0)
def BP(X:SpV)(cs:List AV)(c:SpV)(u:AV):Prop:=∃k a b Y,cs=[.ss k,.si .i64 a,.si .i64 b]/\Links X/\Bnd X 5000/\sY X k a b=Y/\c=Y.1/\u= .tup [.si .i64 Y.2.1,.si .i64 Y.2.2]
def XA:FuncId->EP:=aX 44 [] (aX 101 [] (aX 73 [] (ao 133 (dM 2 GrB OA) (ao 61 (gM 5 SpB Rs) (da 21 (uO D3) (ao 100 zT (ao 102 (gM 5 SpB OZ) evP)))))))
theorem RG:aS XA:=au (au (au (ab (ab (bf (ab (ab az IX) BI) OY (GD _)) BG) OB) (by kernel_rfl) (by kernel_rfl)) (by kernel_rfl) (by kernel_rfl)) (by kernel_rfl) (by kernel_rfl)
def dlL (c:SpC) (gone:Smp) (L:List Rl) (j:Nat):AE×AH:=(mkE [(2,AV.fn 101 [] [.ptr 5 0,.ptr 11 0]),(13,.fr L.length 5 (ruL L)),(14,.si .i64 ((L.length:Int))),(15,.si .i64 ((j:Int)))],mkH [(0,.cells [.map 1,aA c.px,aA c.pg] true),(1,c.m.O kT gE),(2,.sep (IxB.Q c.x c.px)),(3,.sep (GrB.Q c.g c.pg)),(4,.sep (aE (aH c.m.A))),(5,.cells [.ptr 0 0] true),(11,.cells [.fr gone.length 2 (smp gone)] true)])
theorem IY{c:SpC}{gone:Smp}{L:List Rl}{j:Nat}{p n:Nat}{σ:AE}{H:AH}(h:p<=17)(i:ae H 17 (λb=>b) (ai (pa 2) σ) (AV.fn 101 [] [.ptr 5 0,.ptr 11 0]))(a:ai (pa 13) σ= .fr L.length 5 (ruL L))(d:mk (ai (pa 14) σ)= .si .i64 ((L.length:Int)))(e:mk (ai (pa 15) σ)= .si .i64 ((j:Int)))(k:H.get 0=some (.cells [.map 1,aA c.px,aA c.pg] true))(l:H.get 1=some (c.m.O kT gE))(o:H.get 2=some (.sep (IxB.Q c.x c.px)))(q:H.get 3=some (.sep (GrB.Q c.g c.pg)))(r:H.get 4=some (.sep (aE (aH c.m.A))))(s:H.get 5=some (.cells [.ptr 0 0] true))(f:H.get 11=some (.cells [.fr gone.length 2 (smp gone)] true)):Cov p σ H n ((dlL c gone L j).1,(dlL c gone L j).2,17):=
 Cov.ofA h ⟨i,ae.frE a,.int d,.int e,trivial⟩ ⟨.inl ⟨_,k,ak.refl rfl⟩,.inl ⟨_,l,ak.refl (aC bK iG)⟩,.inl ⟨_,o,ak.sep _⟩,.inl ⟨_,q,ak.sep _⟩,.inl ⟨_,r,ak.sep _⟩,.inl ⟨_,s,ak.refl rfl⟩,.inl ⟨_,f,ak.refl rfl⟩,trivial⟩ rfl
theorem Lf(X:SpV)(k:Tx)(a b:Int)(c:SpC)(hc:bA X c)(hl:Links X)(hb:Bnd X 5000){Y:SpV×Int×Int}(E:sY X k a b=Y):ax XA 6 44 [.ptr 0 0,.ss k,.si .i64 a,.si .i64 b] (mkH (bE (spO c) 0)) 5 (gm SpB Y.1 (.tup [.si .i64 Y.2.1,.si .i64 Y.2.2])):=by
 obtain⟨Y1,Y2,Y3⟩:=Y
 conv=>whnf
 refine⟨X,[.ss k],X,_,_,c,rfl,by decide,.cons .same .nil,hc,tY rfl rfl rfl rfl rfl,⟨k,rfl,rfl,rfl⟩,λi f=>?_⟩
 conv=>whnf
 refine ag.du (λF=>?_) (λF=>?_)
 focus
  unfold sY at E;rw[if_pos F]at E;injection E with e1 e2;injection e2 with e2 e3;subst e1 e2 e3
  conv=>whnf
  exact⟨_,i,.told rfl,f,bQ rfl rfl rfl rfl rfl⟩
 have F:dD X k=0:=F;unfold sY at E;rw[if_neg (by rw[F];exact λq=>q rfl)]at E
 have hK:(X.K k).isSome=true:=by
  unfold dD at F;by_cases q:(X.K k).isSome=true
  ·exact q
  ·rw[if_neg q]at F;cases F
 obtain⟨e,N⟩:=q0s.1 hK;rw[N]at E;dsimp only at E;injection E with e1 e2;injection e2 with e2 e3;obtain⟨P,A1,A2,g1,a1,u1,q1⟩:=f.at1 N;have hL:=hb k e N;obtain⟨gone,I⟩:∃gone,gone=bH a b e.L:=⟨_,rfl⟩;obtain⟨G,u⟩:∃G,G=aO e.L a b:=⟨_,rfl⟩;have hgl:gone.length<=5000:=by rw[I];exact q0d (q1h _ _) hL
 have hLl:G.length<=5000:=by rw[u];exact q0d (q1h _ _) hL
 rw[<-I,<-u]at e1;rw[<-u]at e2
 conv=>whnf
 refine Ask.mk _ (bb (m:=i.m) (g:=gE) (k:=k) bP nV rfl rfl rfl qe g1) ?_
 conv=>whnf
 refine⟨4,aH A1,aH A2,P,e.S,e.L,gone,rfl,by decide,by decide,rfl,congrArg (λx=>some (AO.sep (aE x))) q1,⟨_,_,a,b,rfl,rfl,rfl,I⟩,?_⟩
 conv=>whnf
 refine Ask.mk _ (bb (m:=i.m) (g:=gE) (k:=k) bP nV rfl rfl rfl qe g1) ?_
 conv=>whnf
 refine⟨4,aH A1,aH A2,P,e.S,e.L,a,b,G,_,rfl,by decide,by decide,rfl,congrArg (λx=>some (AO.sep (aE x))) q1,rfl,rfl,by omega,u.symm,rfl,λho=>?_⟩;obtain⟨k1,k2,k3⟩:=f.x9 N g1 a1 u1 ho;obtain⟨d,o⟩:∃d,d=ofX X k:=⟨_,rfl⟩;have hR1:ofG i.g k=d:=by rw[o];exact f.of k
 have hnd:(d.map Rl.dst).Nodup:=by rw[o];exact f.Xz k
 rw[<-o]at e1
 have Q:∀r∈d,k≠r.dst/\X.R r.dst=some r/\r.src=k/\r.src≠r.dst:=λr M=>by
  rw[o]at M;obtain⟨m1,T⟩:=f.yd.1 M;have:=qa (f.rul _ _ m1);exact⟨λq=>this (T.trans q),m1,T,this⟩
 have hlen:d.length<=1000:=by rw[o];exact f.OQ k
 have hgg:i.g.length<=1000:=q0d f.gl f.n9;obtain⟨s,v⟩:∃s,s=fO X k {e with L:=G}:=⟨_,rfl⟩;have k1:bA s {i with m:=i.m.put k ⟨P,e.S,G,e.z⟩}:=by rw[v];exact k1
 rw[<-v]at e1
 have U:Bnd s 5000:=λx y p=>by
  rw[v,fC]at p;split at p
  ·injection p with p;subst p;exact hLl
  ·exact hb x y p
 have V:∀x,(s.K x).isSome=(X.K x).isSome:=λx=>by
  rw[v,fC];by_cases q:x=k
  ·subst q;rw[if_pos rfl,N];rfl
  ·rw[if_neg q]
 obtain⟨t,B⟩:∃t:SpC,t={i with m:=i.m.put k ⟨P,e.S,G,e.z⟩}:=⟨_,rfl⟩;have k2':i.m.O kT gE=t.m.O kT gE:=by rw[B];exact k2.symm
 have k3':aH A1++cn P e.S G::aH A2=aH t.m.A:=by rw[B];exact k3.symm
 have n:t.px=i.px/\t.pg=i.pg/\t.x=i.x/\t.g=i.g:=by rw[B];exact⟨rfl,rfl,rfl,rfl⟩
 rw[<-B]at k1;subst e1 e2 e3
 conv=>whnf
 refine⟨3,i.pg,i.g,[.ss k],.fr d.length 5 (ruL d),rfl,by decide,by decide,.cons .same .nil,rfl,rfl,⟨k,rfl,hgg,by rw[hR1]⟩,?_⟩
 conv=>whnf
 refine aN.mk {w:Nat×SpC//w.1<=d.length/\bA ((d.take w.1).foldl (dF gone) s) w.2} 17 (λw=>dlL w.val.2 gone d w.val.1) (λw=>d.length-w.val.1) ⟨(0,t),Z9 _,k1⟩ ?_ ?_
 focus
  refine IY (c:=t) (gone:=gone) (L:=d) (j:=0) ?_ ?_ ?_ ?_ ?_ ?_ ?_ ?_ ?_ ?_ ?_ ?_
  ·exact Z3 17
  ·exact ae.c6 (k:=17) rfl rfl (Z3 17) (λ_ _=>rfl)
  ·exact rfl
  ·exact rfl
  ·exact rfl
  ·rw[n.1,n.2.1];exact rfl
  ·exact congrArg some k2'
  ·rw[n.1,n.2.2.1];exact rfl
  ·rw[n.2.1,n.2.2.2];exact rfl
  ·exact congrArg (λx=>some (AO.sep (aE x))) k3'
  ·exact rfl
  ·exact rfl
 intro⟨(j,c3),hj,C⟩;have hj:j<=d.length:=hj;obtain⟨H,D⟩:∃H,H=(d.take j).foldl (dF gone) s:=⟨_,rfl⟩;have C:bA H c3:=by rw[D];exact C
 have hw:IntKind.i64.wrap ((j:Int)+1)=((j+1:Nat):Int):=by rw[aj (by omega) (by omega)];omega
 have ndj:((d.take j).map Rl.dst).Nodup:=by rw[q4p];exact hnd.sublist (q4t _ _)
 obtain⟨f1,f2,f3,f4,f5⟩:=yh (gone:=gone) (b:=5000) (d.take j) (X:=s) ndj λx y p=>⟨q0d (U x y p) (q1c _ _),λ_=>U x y p⟩
 rw[<-D]at f1 f2 f3 f4 f5;have hB3:Bnd H 25000:=λx y p=>q0d (f5 x y p) (by omega)
 conv=>whnf
 refine ag.dec (λh=>?_) (λh=>?_)
 focus
  have W:j<d.length:=q0v.1 h;have hlt:d.length-(j+1)<d.length-j:=by omega
  obtain⟨r,M⟩:∃r,r=d[j]:=⟨_,rfl⟩;have sub:bl (ruL d) (j*5) 5=some (ruC r):=by rw[M];exact vo W rfl
  obtain⟨m1,T,m3,m4⟩:=Q r (by rw[M];exact q0k W)
  have J:(d.take (j+1)).foldl (dF gone) s=(sX r H gone).2:=by
   rw[q0c W,q3b,<-D,<-M];rfl
  have hS:(H.K r.src).isSome=true:=by rw[f3,V];exact(hl _ _ T).1
  have hD:(H.K r.dst).isSome=true:=by rw[f3,V];exact(hl _ _ T).2
  conv=>whnf
  refine Idx.mk j rfl W ?_
  conv=>whnf
  refine aq sub ?_
  conv=>whnf
  refine⟨H,[gR r,.fr gone.length 2 (smp gone)],_,.tup [],_,c3,rfl,by decide,.cons .same (.cons .same .nil),C,tY rfl rfl rfl rfl rfl,⟨r,gone,rfl,hgl,m4,hS,hD,hB3,rfl,rfl⟩,λc5 hc5=>?_⟩
  conv=>whnf
  exact⟨⟨(j+1,c5),W,by rw[J];exact hc5⟩,hlt,IY (c:=c5) (gone:=gone) (L:=d) (j:=j+1) (Z3 17) (ae.c6 (k:=17) rfl rfl (Z3 17) (λ_ _=>rfl)) rfl rfl (congrArg (AV.si .i64) hw) rfl rfl rfl rfl rfl rfl rfl⟩
 have ej:j=d.length:=by have h:¬(j:Int)<(d.length:Int):=h;omega
 have Z:bA (d.foldl (dF gone) s) c3:=by rw[<-q0u (l:=d),<-ej,<-D];exact C
 conv=>whnf
 exact⟨_,c3,.told rfl,Z,bQ rfl rfl rfl rfl rfl⟩
theorem IZ:al 44 (cK 5 SpB BP):=gu RG 6 (by kernel_rfl) SpB rfl (by decide) λX cs l u ⟨k,a,b,Y,d,e,f,g,h,i⟩=>by
 subst d h i;exact⟨rfl,rfl,λc j=>Lf X k a b c j e f g⟩
def nX(a b:Int):Int×Int:=if qs a b=true then(0,9)else(IntKind.i64.wrap (a+b),0)
def XB(cs:List AV)(v:AV):Prop:=∃a b,cs=[.si .i64 a,.si .i64 b]/\v= .tup [.si .i64 (nX a b).1,.si .i64 (nX a b).2]
theorem YW:al 23 (bV XB):=zE (ay az 2 _) (by kernel_rfl) λcs v ⟨a,b,k,l⟩=>by
 subst k l;refine⟨rfl,rfl,?_⟩;have e:qs a b=true->nX a b=(0,9):=λq=>if_pos q
 have f:qs a b=false->nX a b=(IntKind.i64.wrap (a+b),0):=λq=>if_neg (by rw[q];simp)
 have m:0<=b->IntKind.i64.wrap (a+b)<a->qs a b=true:=λp q=>decide_eq_true (.inl ⟨p,q⟩)
 have n:b<0->a<IntKind.i64.wrap (a+b)->qs a b=true:=λp q=>decide_eq_true (.inr ⟨p,q⟩)
 have g:(0<=b->¬IntKind.i64.wrap (a+b)<a)->(b<0->¬a<IntKind.i64.wrap (a+b))->qs a b=false:=λp q=>decide_eq_false λh=>h.elim (λh=>p h.1 h.2) (λh=>q h.1 h.2)
 have i:qs a b=true->cY (.tup [.si .i64 (nX a b).1,.si .i64 (nX a b).2]) (.tup [.int .i64 0,.int .i64 9]) .nil 0:=λq=>cY.told (by rw[e q];rfl)
 have j:qs a b=false->cY (.tup [.si .i64 (nX a b).1,.si .i64 (nX a b).2]) (.tup [.si .i64 (IntKind.i64.wrap (a+b)),.int .i64 0]) .nil 0:=λq=>cY.told (by rw[f q];rfl)
 clear e f
 conv=>whnf
 refine ag.dec (λd=>?_) (λd=>?_)
 ·conv=>whnf
  refine ag.dec (λz2=>?_) (λz2=>?_)
  ·have q:=i (m d z2)
   conv=>whnf
   exact q
  ·have q:=j (g (λ_=>z2) (λz=>by omega))
   conv=>whnf
   refine ag.dec (λc=>?_) (λc=>?_)
   ·exact absurd c (by omega)
   ·conv=>whnf
    exact q
 ·conv=>whnf
  refine ag.dec (λc=>?_) (λc=>?_)
  ·conv=>whnf
   refine ag.dec (λz2=>?_) (λz2=>?_)
   ·have q:=i (n c z2)
    conv=>whnf
    exact q
   ·have q:=j (g (λz=>absurd z d) (λ_=>z2))
    conv=>whnf
    exact q
  ·exact absurd c (by omega)
theorem Lg(a b:Int):aR (nX a b).1:=by
 unfold nX;split
 ·exact⟨by decide,by decide⟩
 ·exact p8 _
def sZ (X:SpV) (k:Tx) (t y:Int):SpV×Int×Int:=if dD X k≠0 then(X,0,dD X k)else match X.K k with
 |none=>(X,0,5)
 |some e=>if t<0∨1099511627776<=t then(X,0,1)else if 0<(e.L.length:Int)/\t<tAt e.L (e.L.length-1)then(X,0,7)
  else if(nX (vAt e.L (e.L.length-1)) y).2≠0 then(X,0,(nX (vAt e.L (e.L.length-1)) y).2)
  else if(jY X k t (nX (vAt e.L (e.L.length-1)) y).1 3).2≠0 then((jY X k t (nX (vAt e.L (e.L.length-1)) y).1 3).1,0,(jY X k t (nX (vAt e.L (e.L.length-1)) y).1 3).2)
  else((jY X k t (nX (vAt e.L (e.L.length-1)) y).1 3).1,(nX (vAt e.L (e.L.length-1)) y).1,0)
def O1(X:SpV)(cs:List AV)(a:SpV)(u:AV):Prop:=∃k t y Y,cs=[.ss k,.si .i64 t,.si .i64 y]/\Links X/\Bnd X 20000/\sZ X k t y=Y/\a=Y.1/\u= .tup [.si .i64 Y.2.1,.si .i64 Y.2.2]
def XC:FuncId->EP:=aX 19 [] (ao 61 (gM 5 SpB Rs) (ao 32 (gM 5 SpB qb) (ao 18 (mY UC) (ao 23 (bV XB) evP))))
theorem RH:aS XC:=au (ab (ab (ab (ab az YW) Xt) Rx) BG) (by kernel_rfl) (by kernel_rfl)
theorem GG(X:SpV)(k:Tx)(t y:Int)(c:SpC)(Q:bA X c)(F:Links X)(z:Bnd X 20000){Y:SpV×Int×Int}(a:sZ X k t y=Y):ax XC 6 19 [.ptr 0 0,.ss k,.si .i64 t,.si .i64 y] (mkH (bE (spO c) 0)) 5 (gm SpB Y.1 (.tup [.si .i64 Y.2.1,.si .i64 Y.2.2])):=by
 obtain⟨G,I,J⟩:=Y
 conv=>whnf
 refine⟨X,[.ss k],X,_,_,c,rfl,by decide,.cons .same .nil,Q,tY rfl rfl rfl rfl rfl,⟨k,rfl,rfl,rfl⟩,λv b=>?_⟩
 conv=>whnf
 refine ag.du (λh=>?_) (λh=>?_)
 focus
  unfold sZ at a;rw[if_pos h]at a;injection a with e1 e2;injection e2 with e2 e3;subst e1 e2 e3
  conv=>whnf
  exact⟨_,v,.told rfl,b,bQ rfl rfl rfl rfl rfl⟩
 have h:dD X k=0:=h;unfold sZ at a;rw[if_neg (by rw[h];exact λq=>q rfl)]at a
 have R:(X.K k).isSome=true:=by
  unfold dD at h;by_cases q:(X.K k).isSome=true
  ·exact q
  ·rw[if_neg q]at h;cases h
 obtain⟨e,A⟩:=q0s.1 R;rw[A]at a;dsimp only at a;obtain⟨T,U,V,Z,a1,u1,q1⟩:=b.at1 A;have hL:=z k e A;obtain⟨lt,p⟩:∃lt,lt=tAt e.L (e.L.length-1):=⟨_,rfl⟩;obtain⟨o,r⟩:∃o,o=vAt e.L (e.L.length-1):=⟨_,rfl⟩;have i:sw e.L= .tup [.agg [.si .i64 lt,.si .i64 o],.sb (decide ((0:Int)<(e.L.length:Int)))]:=by rw[p,r];rfl
 rw[<-p,<-r]at a;obtain⟨P,w⟩:∃P,P=nX o y:=⟨_,rfl⟩;have d:aR P.1:=by rw[w];exact Lg _ _
 rw[<-w]at a;obtain⟨s,P2⟩:=P;dsimp only at a d;obtain⟨W,B⟩:∃W,W=jY X k t s 3:=⟨_,rfl⟩;rw[<-B]at a;obtain⟨M,N⟩:=W;dsimp only at a;have fin:∀{u H n O},bA G O->mkT u=mkT (.tup [.si .i64 I,.si .i64 J])->xC H 5 (spO O) 0->gm SpB G (.tup [.si .i64 I,.si .i64 J]) u H n:=λh1 h2 h3=>⟨_,_,.told h2,h1,h3⟩
 conv=>whnf
 refine Ask.mk _ (bb (m:=v.m) (g:=gE) (k:=k) bP nV rfl rfl rfl qe Z) ?_
 conv=>whnf
 refine⟨4,aH U,aH V,T,e.S,e.L,_,rfl,by decide,by decide,rfl,congrArg (λx=>some (AO.sep (aE x))) q1,⟨rfl,i.symm⟩,?_⟩
 conv=>whnf
 refine ag.dec (λz2=>?_) (λz2=>?_)
 focus
  rw[if_pos (.inl z2)]at a;injection a with e1 e2;injection e2 with e2 e3;subst e1 e2 e3
  conv=>whnf
  exact fin b rfl (bQ rfl rfl rfl rfl rfl)
 conv=>whnf
 refine ag.dec (λC=>?_) (λC=>?_)
 focus
  rw[if_pos (.inr C)]at a;injection a with e1 e2;injection e2 with e2 e3;subst e1 e2 e3
  conv=>whnf
  exact fin b rfl (bQ rfl rfl rfl rfl rfl)
 rw[if_neg (λq=>q.elim z2 C)]at a
 conv=>whnf
 refine ag.dec (λD=>?_) (λD=>?_)
 focus
  conv=>whnf
  refine ag.dec (λE=>?_) (λE=>?_)
  focus
   rw[if_pos ⟨D,E⟩]at a;injection a with e1 e2;injection e2 with e2 e3;subst e1 e2 e3
   conv=>whnf
   exact fin b rfl (bQ rfl rfl rfl rfl rfl)
  rw[if_neg (λq=>E q.2)]at a
  conv=>whnf
  refine⟨_,_,_,.cons .same (.cons .same .nil),⟨o,y,rfl,by rw[<-w]⟩,?_⟩
  conv=>whnf
  refine ag.du (λj=>?_) (λj=>?_)
  focus
   rw[if_pos j]at a;injection a with e1 e2;injection e2 with e2 e3;subst e1 e2 e3
   conv=>whnf
   exact fin b rfl (bQ rfl rfl rfl rfl rfl)
  rw[if_neg (λq=>q j)]at a
  conv=>whnf
  refine⟨X,[.ss k,.agg [.si .i64 t,.si .i64 s],.si .i64 3],M,.si .i64 N,_,v,rfl,by decide,.cons .same (.cons .same (.cons (.told rfl) .nil)),b,tY rfl rfl rfl rfl rfl,⟨k,t,s,3,_,rfl,d,F,z,B.symm,rfl,rfl⟩,λc2 f=>?_⟩
  conv=>whnf
  refine ag.du (λl=>?_) (λl=>?_)
  focus
   rw[if_pos l]at a;injection a with e1 e2;injection e2 with e2 e3;subst e1 e2 e3
   conv=>whnf
   exact fin f rfl (bQ rfl rfl rfl rfl rfl)
  rw[if_neg (λq=>q l)]at a;injection a with e1 e2;injection e2 with e2 e3;subst e1 e2 e3
  conv=>whnf
  exact fin f rfl (bQ rfl rfl rfl rfl rfl)
 rw[if_neg (λq=>D q.1)]at a
 conv=>whnf
 refine⟨_,_,_,.cons .same (.cons .same .nil),⟨o,y,rfl,by rw[<-w]⟩,?_⟩
 conv=>whnf
 refine ag.du (λj=>?_) (λj=>?_)
 focus
  rw[if_pos j]at a;injection a with e1 e2;injection e2 with e2 e3;subst e1 e2 e3
  conv=>whnf
  exact fin b rfl (bQ rfl rfl rfl rfl rfl)
 rw[if_neg (λq=>q j)]at a
 conv=>whnf
 refine⟨X,[.ss k,.agg [.si .i64 t,.si .i64 s],.si .i64 3],M,.si .i64 N,_,v,rfl,by decide,.cons .same (.cons .same (.cons (.told rfl) .nil)),b,tY rfl rfl rfl rfl rfl,⟨k,t,s,3,_,rfl,d,F,z,B.symm,rfl,rfl⟩,λc2 f=>?_⟩
 conv=>whnf
 refine ag.du (λl=>?_) (λl=>?_)
 focus
  rw[if_pos l]at a;injection a with e1 e2;injection e2 with e2 e3;subst e1 e2 e3
  conv=>whnf
  exact fin f rfl (bQ rfl rfl rfl rfl rfl)
 rw[if_neg (λq=>q l)]at a;injection a with e1 e2;injection e2 with e2 e3;subst e1 e2 e3
 conv=>whnf
 exact fin f rfl (bQ rfl rfl rfl rfl rfl)
theorem Eu:al 19 (cK 5 SpB O1):=gu RH 6 (by kernel_rfl) SpB rfl (by decide) λX cs i u ⟨k,t,y,Y,a,b,d,e,f,g⟩=>by
 subst a f g;exact⟨rfl,rfl,λc h=>GG X k t y c h b d e⟩
def S3(f g:List AV->AH->Nat->PK->Prop)(args:List AV)(H:AH)(n:Nat)(κ:PK):Prop:=f args H n κ∨g args H n κ
theorem al.or{f:FuncId}{r s:List AV->AH->Nat->PK->Prop}(b:al f r)(c:al f s):al f (S3 r s):=λargs H n a d=>d.elim (b args H n a) (c args H n a)
def XD(cs:List AV)(v:AV):Prop:=cs=[.nil]/\v= .nil
theorem RI:al 58 (bV XD):=zE (ay Ik 4 _) (by kernel_rfl) λcs v ⟨a,b⟩=>by
 subst a b;refine⟨rfl,rfl,?_⟩
 conv=>whnf
 exact cY.told rfl
theorem Vv{H:AH}{n j:Nat}{c:SpC}{Q:HP}{u v:AV}(s:5<=j)(i:H.get 0=some (.cells [.map 1,aA c.px,aA c.pg] true))(l:H.get 1=some (c.m.O kT gE))(o:H.get 2=some (.sep (IxB.Q c.x c.px)))(p:H.get 3=some (.sep (GrB.Q c.g c.pg)))(q:H.get 4=some (.sep (aE (aH c.m.A))))(r:H.get j=some (.sep Q))(hv:ae H 6 (λb=>if b=5 then j else b) u v):Cov 5 (mkE [(0,u)]) H n (mkE [(0,v)],mkH (bE (spO c++ [.sep Q]) 0),6):=by
 have f:∀b,b<5->(if b=5 then j else b)=b:=λb d=>if_neg (by omega)
 refine Cov.ofR (λb=>if b=5 then j else b) (by decide) f (λx a=>?_) (λx a=>?_) (λx a y h e=>?_)
 ·simp only[Z5,Z4,or_false]at a;subst a;exact hv
 ·simp only[bE,spO,q1w,q2m,Z5,Z4,or_false]at a;rcases a with rfl|rfl|rfl|rfl|rfl|rfl
  ·exact⟨Z0 rfl,.inl ⟨_,i,ak.bz (k:=2) rfl (by decide) (λb d=>f b (by omega))⟩⟩
  ·exact⟨Z0 rfl,.inl ⟨_,l,ak.bz (k:=0) (aC bK iG) (by decide) (λb d=>absurd d (q0o b))⟩⟩
  ·exact⟨Z0 rfl,.inl ⟨_,o,ak.sep _⟩⟩
  ·exact⟨Z0 rfl,.inl ⟨_,p,ak.sep _⟩⟩
  ·exact⟨Z0 rfl,.inl ⟨_,q,ak.sep _⟩⟩
  ·exact⟨Z0 rfl,.inl ⟨_,r,ak.sep _⟩⟩
 ·simp only[bE,spO,q1w,q2m,Z5,Z4,or_false]at a h;rcases a with rfl|rfl|rfl|rfl|rfl|rfl<;>rcases h with rfl|rfl|rfl|rfl|rfl|rfl<;>simp at e⊢<;>omega
theorem RJ{X:SpV}{c:SpC}{u v:AV}{H:AH}{n:Nat}{P:AV->List AO->Prop}(l:P v [])(hv:gj v=true)(h:gm SpB X v u H n):Oc SpB 5 X P u H n:=by
 obtain⟨J,m,p,s,w⟩:=h;refine⟨v,[],m,l,s,(iU (r:=λb=>b) hv).2,λo ho=>(by cases ho),by decide,?_⟩;rw[q1e];intro x A B C D E;obtain⟨F,f,g,i⟩:=p x A B (C 0) D (E 0 u rfl);obtain⟨j,d,k⟩:=Bz g w (by rw[SpB.len];exact Z3 _);refine⟨j,⟨λy q G e=>d.1 y q G (f.b y q e),λq e=>d.2.1 q (f.z q e),λq e=>f.y q (d.2.2 q e)⟩,k,λt a I=>?_⟩;have:=nG I;simp only[Z5,Z4,or_false]at this;injection this with e1 e2;subst e1 e2;exact nP d.2.1 hv i
def YX(o:Option fK)(v:AV)(E:List AO):Prop:=match o with
 |none=>v= .nil/\E=[]
 |some e=>∃p,v=aA p/\E=[.sep (cn p e.S e.L)]
def XE(X:SpV)(cs:List AV)(a:SpV)(P:AV->List AO->Prop):Prop:=∃k,cs=[.ss k]/\a=X/\P=YX (X.K k)
def YY:FuncId->EP:=aX 16 [] (ao 58 (S3 (bV XD) IL) evP)
theorem RK:aS YY:=au (ab az (RI.or Ei)) (by kernel_rfl) (by kernel_rfl)
theorem GH:al 16 (xD 5 SpB XE):=xE (ay RK 5 _) (by kernel_rfl) SpB rfl (by decide) λX cs h P ⟨k,i,l,n⟩=>by
 subst i l n;refine⟨rfl,λc a=>?_⟩;cases f:h.K k with
 |none=>
  have b:=a.no1 f
  conv=>whnf
  refine Ask.mk _ (bb (m:=c.m) (g:=gE) (k:=k) bP nV rfl rfl rfl qe b) ?_
  conv=>whnf
  refine .inl ⟨_,_,_,.cons .same .nil,⟨rfl,rfl⟩,?_⟩
  conv=>whnf
  exact RJ (c:=c) (v:= .nil) ⟨rfl,rfl⟩ rfl ⟨_,c,.told rfl,a,bQ rfl rfl rfl rfl rfl⟩
 |some e=>
  obtain⟨p,q,r,b,t,u,s⟩:=a.at1 f
  conv=>whnf
  refine Ask.mk _ (bb (m:=c.m) (g:=gE) (k:=k) bP nV rfl rfl rfl qe b) ?_
  conv=>whnf
  refine .inr ⟨4,aH q,aH r,p,e.S,e.L,rfl,by decide,by decide,rfl,congrArg (λx=>some (AO.sep (aE x))) s,λd=>?_⟩
  conv=>whnf
  refine⟨aA d,[.sep (cn d e.S e.L)],c,⟨d,rfl,rfl⟩,a,rfl,λo ho=>?_,Z0 rfl,Vv (j:=6) (by decide) rfl rfl rfl rfl rfl rfl (ae.aA rfl)⟩;simp only[Z5,Z4,or_false]at ho;subst ho;exact⟨rfl,rfl⟩
def XF(o:Option fK):AV:=match o with
 |none=> .tup [.agg [.int .i64 0,.int .i64 0,.int .i64 0,.nsl],.sb false]
 |some e=> .tup [GB e.z e.S.ret e.S.pol e.lab,.sb true]
def XG(X:SpV)(cs:List AV)(v:AV):Prop:=∃k,cs=[.ss k]/\v=XF (X.K k)
def RL:DT:=[(4,[(some 0,[6]),(some 0,[25]),(some 0,[6]),(some 0,[27]),(none,[28]),(some 1,[6]),(some 2,[30]),(none,[31]),(some 4,[0]),(some 5,[33]),(some 6,[34]),(some 7,[35]),(some 8,[1]),(none,[36,37]),(some 0,[26,29,32,38]),(none,[4,39])])]
def YZ:FuncId->EP:=aX 35 RL (da 84 (dM 4 IxB KY) (da 87 (dM 4 IxB Xg) (da 85 (mY UA) (da 86 (mY UB) evP))))
theorem RM:aS YZ:=au (bf (bf (bf (bf az Xs (BH _)) Xr (BH _)) Rh (Gf _ _ _)) sO (Gf _ _ _)) (by kernel_rfl) (by kernel_rfl)
theorem Ev:al 35 (dM 5 SpB XG):=(gu RM 5 (by kernel_rfl) SpB rfl (by decide) λX cs f v ⟨n,k,o,p⟩=>by
 subst n o p;refine⟨rfl,by cases f.K k<;>rfl,λc a=>?_⟩;have b:=a.has k;have hi:=a.I k;cases d:f.K k with
 |none=>
  rw[d]at b
  conv=>whnf
  refine⟨2,c.px,c.x,[.ss k],.sb false,rfl,by decide,by decide,.cons .same .nil,rfl,rfl,⟨k,rfl,congrArg AV.sb b.symm⟩,?_⟩
  conv=>whnf
  refine ag.nsb (λz=>?_) (λz=>?_)
  focus
   conv=>whnf
   exact⟨_,c,.told rfl,a,bQ rfl rfl rfl rfl rfl⟩
  cases z
 |some e=>
  rw[d]at b hi;obtain⟨h,i,j,q,r,s,l⟩:=a.at1 d
  conv=>whnf
  refine⟨2,c.px,c.x,[.ss k],.sb true,rfl,by decide,by decide,.cons .same .nil,rfl,rfl,⟨k,rfl,congrArg AV.sb b.symm⟩,?_⟩
  conv=>whnf
  refine ag.nsb (λz=>?_) (λz=>?_)
  focus
   cases z
  conv=>whnf
  refine Ask.mk _ (bb (m:=c.m) (g:=gE) (k:=k) bP nV rfl rfl rfl qe q) ?_
  conv=>whnf
  refine⟨4,aH i,aH j,h,e.S,e.L,_,rfl,by decide,by decide,rfl,congrArg (λx=>some (AO.sep (aE x))) l,⟨rfl,rfl⟩,?_⟩
  conv=>whnf
  refine⟨4,aH i,aH j,h,e.S,e.L,_,rfl,by decide,by decide,rfl,congrArg (λx=>some (AO.sep (aE x))) l,⟨rfl,rfl⟩,?_⟩
  conv=>whnf
  refine⟨2,c.px,c.x,[.ss k],gL e.lab,rfl,by decide,by decide,.cons .same .nil,rfl,rfl,⟨k,rfl,by rw[hi];rfl⟩,?_⟩
  conv=>whnf
  exact⟨_,c,.told rfl,a,bQ rfl rfl rfl rfl rfl⟩).ol
theorem Cov.hole{p n:Nat}{σ:AE}{H:AH}{s:AE×AH×Nat}(h:Cov p σ (H.set (some (.sep .emp)) aa n) (n+1) s):Cov p σ H n s:=λx f g i j k=>by
 obtain⟨m,l,c⟩:=j.hole;obtain⟨o,d,r,u⟩:=h m f g i c (λt a v=>VR.mono l _ _ (k t a v));exact⟨o,⟨λb q w e=>d.1 b q w (l.b b q e),λq e=>d.2.1 q (l.z q e),λq e=>l.y q (d.2.2 q e)⟩,r,u⟩
def lE:SpV:=⟨λ_=>none,λ_=>none,0⟩
theorem RN(px pg:Nat×Nat):bA lE ⟨MpC.no,⟨[],0⟩,px,[],pg⟩:=⟨MpC.xN,.nil,.nil,by decide,Z3 _,Z3 _,Z3 _,Z3 _,λ_=>rfl,λ_=>rfl,λ_=>rfl,λ_ h=>(by cases h),λ_ _ h=>(by cases h),λ_ _ h=>(by cases h),λ_ _ h=>(by cases h)⟩
def Y0:FuncId->EP:=aX 9 [] (ao 51 (sJ 4 IxB λcs y=>cs=[]/\y=⟨[],0⟩) (ao 52 (sJ 2 GrB λcs y=>cs=[]/\y=[]) evP))
theorem RO:aS Y0:=au (ab (ab az Rp) IG) (by kernel_rfl) (by kernel_rfl)
def XH(b:Nat):Nat:=if b=0 then 9 else if b=1 then 0 else if b=2 then 1 else if b=3 then 6 else if b=4 then 10 else b+100
theorem I0:al 9 (sJ 5 SpB λcs y=>cs=[]/\y=lE):=Od (ay RO 5 _) (by kernel_rfl) SpB rfl (by decide) λcs y ⟨h,j⟩=>by
 subst h j;refine⟨rfl,?_⟩
 conv=>whnf
 refine⟨[],⟨[],0⟩,_,by decide,.nil,rfl,⟨rfl,rfl⟩,λd=>?_⟩
 conv=>whnf
 refine⟨[],[],_,by decide,.nil,rfl,⟨rfl,rfl⟩,λf=>?_⟩
 conv=>whnf
 refine⟨⟨MpC.no,⟨[],0⟩,d,[],f⟩,RN d f,Cov.hole (Cov.ofR XH (Z9 _) (λb k=>absurd k (q0o b)) (λx c=>?_) (λx c=>?_) (λx c y g e=>?_))⟩
 ·simp only[Z5,Z4,or_false]at c;subst c;exact .ptr (by decide) rfl
 ·simp only[bE,spO,SpB,Z5,Z4,or_false]at c;rcases c with rfl|rfl|rfl|rfl|rfl
  ·refine⟨Z0 rfl,.inl ⟨_,rfl,.cells (Z3 _) id λi l a=>?_⟩⟩
   match i,a with
   |0,a=>injection a with a;subst a;exact⟨_,rfl,.map (by decide) rfl⟩
   |1,a=>injection a with a;subst a;exact⟨_,rfl,.aA rfl⟩
   |2,a=>injection a with a;subst a;exact⟨_,rfl,.aA rfl⟩
   |i+3,a=>simp at a
  ·exact⟨Z0 rfl,.inl ⟨_,rfl,.Gl⟩⟩
  ·exact⟨Z0 rfl,.inl ⟨_,rfl,ak.sep _⟩⟩
  ·exact⟨Z0 rfl,.inl ⟨_,rfl,ak.sep _⟩⟩
  ·exact⟨Z0 rfl,.inl ⟨_,rfl,ak.sep _⟩⟩
 ·simp only[bE,spO,SpB,Z5,Z4,or_false]at c g;rcases c with rfl|rfl|rfl|rfl|rfl<;>rcases g with rfl|rfl|rfl|rfl|rfl<;>simp[XH]at e⊢
theorem Re.MH{H d:AH}{n:Nat}{a f c g:AV}(h:Re H n a d f)(e:mkT c=mkT g):Re H n (.tup [a,c]) d (.tup [f,g]):=λi j k w m o=>by
 obtain⟨cs,rfl,p⟩:=o.fm;obtain⟨x,y,rfl,q,r⟩:=vs2 p;obtain⟨s,l,b,t⟩:=h i j k x m q;exact⟨s,l,b,.tup (.cons t (.cons (VR.mono l _ _ (Io (e▸r.mkT))) .nil))⟩
theorem Re.slK{H:AH}{n b m c k:Nat}{l s:List AV}{z:Bool}(e:k≠0)(u:m<=c)(f:H.get b=some (.cells l z))(g:s.all flat.flat1=true)(a:s.length=m*k)(d:l.map mk=s.map mk):Re H n (.sl b 0 m c k) (H.set none aa b) (.fr m k s):=λi j h w o q=>by
 refine Re.row (x:=0) f g a d (by decide) i j h w o ?_;obtain⟨p,C,r,rfl,v,t⟩:=q.eQ;obtain⟨y,A⟩:=t e;exact .rw r (λ_=>rfl) (q1c _ _) (by omega) (by omega)
def O3:AV:= .agg [.int .i64 0,.int .i64 100,.bool false,.int .i64 0,.int .i64 0,.int .i64 0,.int .i64 0,.bool false,.nsl,.bool false,.int .i64 0,.int .i64 0]
def few(L:Smp):Prop:=L=[]∨∃t x,L=[(t,x)]/\0<=t/\t<=100
def XI(cs:List AV)(v:AV):Prop:=∃L,few L/\cs=[.fr L.length 2 (smp L),O3]/\v= .tup [.fr L.length 2 (smp L),.si .i64 0]
def kTl:FuncId->EP:=aX 103 [] evP
theorem Vw:aS kTl:=au az (by kernel_rfl) (by kernel_rfl)
theorem RP:al 103 (bV XI):=zE (ay Vw 4 _) (by kernel_rfl) λcs v ⟨L,a,d,e⟩=>by
 subst d e;refine⟨rfl,rfl,?_⟩;rcases a with rfl|⟨t,x,rfl,f,g⟩
 ·conv=>whnf
  refine aN.roll 1 ?_
  conv=>whnf
  refine ag.dec (λz=>absurd z (by decide)) (λz=>?_)
  conv=>whnf
  exact⟨_,.MH .nsl rfl⟩
 ·conv=>whnf
  refine aN.roll 2 ?_
  conv=>whnf
  refine ag.dec (λz=>?_) (λz=>absurd (show(0:Int)<((1:Nat):Int) by decide) z)
  conv=>whnf
  refine Idx.mk 0 rfl Nat.zero_lt_one ?_
  conv=>whnf
  refine ag.dec (λz=>absurd z (by show¬t<0;omega)) (λz=>?_)
  conv=>whnf
  refine ag.dec (λz=>absurd z (by show¬100<t;omega)) (λz=>?_)
  conv=>whnf
  refine aN.roll 1 ?_
  conv=>whnf
  refine ag.dec (λz=>absurd (show IntKind.i64.wrap (0+1)<((1:Nat):Int) from z) (by rw[aj (by decide) (by decide)];decide)) (λz=>?_)
  conv=>whnf
  refine⟨_,.MH (Re.slK (b:=6) (m:=1) (c:=1) (k:=2) (z:=true) (l:=[.si .i64 t,.si .i64 x]) (s:=smp [(t,x)]) (by decide) (by decide) ?_ rfl rfl rfl) rfl⟩;exact rfl
def q0:AV:= .agg [.int .i64 0,.int .i64 0,.bool false,.int .i64 0,.int .i64 0,.int .i64 0,.int .i64 0,.bool false,.nsl,.bool false,.int .i64 0,.int .i64 0]
def Ew(X:SpV)(cs:List AV)(v:AV):Prop:=∃k,(cs=[.ss k,q0]/\X.K k=none/\v= .tup [.nsl,.si .i64 5])∨∃e,cs=[.ss k,O3]/\X.K k=some e/\few (bH 0 1099511627776 e.L)/\v= .tup [.fr (bH 0 1099511627776 e.L).length 2 (smp (bH 0 1099511627776 e.L)),.si .i64 0]
def Y4:FuncId->EP:=aX 45 [(5,[(some 1000000,[7,8]),(none,[0,1,2,3,4,5,6,7,8,9,10,11,12,13]),(none,[0,1,2,3,4,5,6,8,7,9,10,11,12,13])])] (ao 84 (dM 4 IxB KY) (da 21 (uO D3) (ao 103 (bV XI) evP)))
theorem RQ:aS Y4:=au (ab (bf (ab az RP) OY (GD _)) sO) (by kernel_rfl) (by kernel_rfl)
theorem O4:al 45 (dM 5 SpB Ew):=(gu RQ 5 (by kernel_rfl) SpB rfl (by decide) λX cs s v ⟨j,k,h⟩=>by
 subst j;rcases h with⟨f,d,i⟩|⟨e,f,d,l,i⟩
 ·subst f i;refine⟨rfl,rfl,λc a=>?_⟩;have b:=a.has k;rw[d]at b
  conv=>whnf
  refine⟨2,c.px,c.x,[.ss k],.sb false,rfl,by decide,by decide,.cons .same .nil,rfl,rfl,⟨k,rfl,congrArg AV.sb b.symm⟩,?_⟩
  conv=>whnf
  refine ag.nsb (λz=>?_) (λz=>?_)
  focus
   conv=>whnf
   exact⟨_,c,.told rfl,a,bQ rfl rfl rfl rfl rfl⟩
  cases z
 ·subst f i;refine⟨rfl,rfl,λc a=>?_⟩;have b:=a.has k;rw[d]at b;obtain⟨n,o,p,q,t,u,r⟩:=a.at1 d
  conv=>whnf
  refine⟨2,c.px,c.x,[.ss k],.sb true,rfl,by decide,by decide,.cons .same .nil,rfl,rfl,⟨k,rfl,congrArg AV.sb b.symm⟩,?_⟩
  conv=>whnf
  refine ag.nsb (λz=>?_) (λz=>?_)
  focus
   cases z
  conv=>whnf
  refine⟨?_,?_,trivial⟩
  all_goals
   conv=>whnf
   refine Ask.mk _ (bb (m:=c.m) (g:=gE) (k:=k) bP nV rfl rfl rfl qe q) ?_
   conv=>whnf
   refine⟨4,aH o,aH p,n,e.S,e.L,bH 0 1099511627776 e.L,rfl,by decide,by decide,rfl,congrArg (λx=>some (AO.sep (aE x))) r,⟨_,_,0,1099511627776,rfl,rfl,rfl,rfl⟩,?_⟩
   conv=>whnf
   refine⟨_,_,_,.cons .same (.cons .same .nil),⟨_,l,rfl,rfl⟩,?_⟩
   conv=>whnf
   exact⟨_,c,.told rfl,a,bQ rfl rfl rfl rfl rfl⟩).ol
def Vx(cs:List AV)(v:AV):Prop:=∃V W,cs=[.fr V.length 1 (strs V),.fr W.length 1 (strs W)]/\V.length<=1000000/\v= .sb (decide (V=W))
def XJ:FuncId->EP:=aX 30 [] evP
theorem RR:aS XJ:=au az (by kernel_rfl) (by kernel_rfl)
def smT (V:List (List Nat)) (W:List (List Nat)) (i:Nat):AE×AH:=(mkE [(0,.fr V.length 1 (strs V)),(1,.fr W.length 1 (strs W)),(5,.si .i64 (i))],mkH [])
theorem I1{V:List (List Nat)}{W:List (List Nat)}{i:Nat}{p n:Nat}{σ:AE}{H:AH}(a:p<=0)(e0:ai (pa 0) σ= .fr V.length 1 (strs V))(b:ai (pa 1) σ= .fr W.length 1 (strs W))(c:mk (ai (pa 5) σ)= .si .i64 (i)):Cov p σ H n ((smT V W i).1,(smT V W i).2,0):=
 Cov.ofA a ⟨ae.frE e0,ae.frE b,.int c,trivial⟩ trivial rfl
theorem RS(V W:List Tx)(r:V.length<=1000000):ax XJ 3 30 [.fr V.length 1 (strs V),.fr W.length 1 (strs W)] .nil 0 (cY (.sb (decide (V=W)))):=by
 conv=>whnf
 refine ag.du (λd=>?_) (λd=>?_)
 ·have o:decide (V=W)=false:=decide_eq_false λe=>d (by subst e;rfl)
  rw[o]
  conv=>whnf
  exact cY.told rfl
 ·have m:V.length=W.length:=q3u.1 d
  conv=>whnf
  refine aN.mk {i:Nat//i<=V.length/\V.take i=W.take i} 0 (λi=>smT V W i.val) (λi=>V.length-i.val) ⟨0,Z9 _,rfl⟩ ?_ ?_
  ·exact I1 (i:=0) (Z3 0) rfl rfl rfl
  ·intro⟨i,s,f⟩
   conv=>whnf
   refine ag.dec (λg=>?_) (λg=>?_)
   ·have a:i<V.length:=q0v.1 g;have b:i<W.length:=m▸a;have j:V.length-(i+1)<V.length-i:=by omega
    have p:IntKind.i64.wrap ((i:Int)+1)=((i+1:Nat):Int):=by rw[aj (by omega) (by omega)];omega
    have k:V[i]=W[i]->V.take (i+1)=W.take (i+1):=λe=>by rw[q0c a,q0c b,f,e]
    have l:¬V[i]=W[i]->decide (V=W)=false:=λq=>decide_eq_false λe=>q (by subst e;rfl)
    conv=>whnf
    refine Idx.mk i rfl a ?_
    conv=>whnf
    refine aq (cL a (q0r _)) ?_
    conv=>whnf
    refine Idx.mk i rfl b ?_
    conv=>whnf
    refine aq (cL b (q0r _)) ?_
    conv=>whnf
    refine ag.nsb (λc=>?_) (λc=>?_)
    ·have:=l λe=>by rw[a8.2 e]at c;cases c
     conv=>whnf
     exact⟨_,.told (congrArg AV.sb this.symm)⟩
    ·have:=k (a8.1 c)
     conv=>whnf
     exact⟨⟨i+1,a,this⟩,j,I1 (Z3 0) rfl rfl (congrArg (AV.si .i64) p)⟩
   ·have a:i=V.length:=by have:¬(i:Int)<(V.length:Int):=g;omega
    have b:decide (V=W)=true:=decide_eq_true (by rw[a,q0u,m,q0u]at f;exact f)
    conv=>whnf
    exact⟨_,.told (congrArg AV.sb b.symm)⟩
theorem XK:al 30 (bV Vx):=kh RR 3 (by kernel_rfl) λcs v ⟨V,W,a,b,c⟩=>by
 subst a c;exact⟨rfl,rfl,RS V W b⟩
section
variable {φ:Ph} {H H2:AH} {n:Nat} {h0 h:Hp}
theorem HR.RT(w:HR φ H n h0 h){c b i m k:Nat}{lc l s:List AV}{zc z:Bool}(x:H.get c=some (.cells lc zc))(hi:lc[i]?=some (.sl b 0 m m 0))(C:H.get b=some (.cells l z))(f:c≠b)(D:b<1000000)(E:s.all flat.flat1=true)(g:s.length=m*k)(o:l.map Go.Proofs.YtflehenfikoniaaGreat.mk=s.map Go.Proofs.YtflehenfikoniaaGreat.mk):
 ∃χ,PLe φ χ/\HR χ ((H.set none aa b).set (some (.cells (lc.set i (.fr m k s)) zc)) aa c) n h0 h:=by
 have a:=(q0e.1 hi).1;rcases w.live c _ x with⟨_,F⟩|⟨p,Z,G,h2,I,J⟩
 ·cases lc with
  |nil=>cases a
  |cons _ _=>cases F
 obtain⟨cc,t,fz,rfl,o1,o2,o3,o4,K⟩:=J;obtain⟨y,L,M⟩:=K i _ hi;obtain⟨χ,A,N,O⟩:=Re.sl C E g o φ h0 h y w M;have r:(H.set none aa b).get c=some (.cells lc zc):=PM.gne (by omega) f x
 refine⟨χ,A,N.Sw r rfl rfl (λq=>by cases lc with
  |nil=>cases a
  |cons _ _=>cases q) λP Q R d ⟨u,S,v,B,T,U,V,W,X⟩=>⟨u,S,v,B,by rw[List.length_set];exact T,U,V,W,λj Y e=>?_⟩⟩
 have:P=p:=by have:=A.b c p G;rw[R]at this;injection this
 subst this;rw[I]at d;injection d with d;rw[B]at d;injection d with d;subst d;by_cases q:i=j
 ·subst q;rw[List.getElem?_set_self a]at e;injection e with e;subst e;exact⟨y,L,O⟩
 ·rw[List.getElem?_set_ne q]at e;exact X j Y e
theorem Cov.pre{p:Nat}{σ:AE}{s:AE×AH×Nat}(h:∀φ h0 h,HR φ H n h0 h->∃ψ,PLe φ ψ/\HR ψ H2 n h0 h)(g:Cov p σ H2 n s):Cov p σ H n s:=λφ h0 f i j k=>by
 obtain⟨ψ,l,c⟩:=h φ h0 f j;obtain⟨m,d,o,r⟩:=g ψ h0 f i c (λt a u=>VR.mono l _ _ (k t a u));exact⟨m,⟨λb q v e=>d.1 b q v (l.b b q e),λq e=>d.2.1 q (l.z q e),λq e=>l.y q (d.2.2 q e)⟩,o,r⟩
end
abbrev rK:Rl:=⟨[97],[98],1,10,0⟩
abbrev nY:List Lab:=[([120],[49])]
def stV(a b:fK)(q:Bool)(n:Nat):SpV:=⟨λx=>if x=[98]then some b else if x=[97]then some a else none,λd=>if d=[98]then(if q=true then some rK else none)else none,n⟩
section
variable {a b e:fK} {q:Bool} {n:Nat}
theorem S4:fO (stV a b q n) [97] e=stV e b q n:=by
 unfold fO stV;congr 1;funext x;by_cases h:x=[97]
 ·subst h;rfl
 ·(try simp only[if_neg h])
theorem S5:fO (stV a b q n) [98] e=stV a e q n:=by
 unfold fO stV;congr 1;funext x;by_cases h:x=[98]
 ·subst h;rfl
 ·(try simp only[if_neg h])
theorem S6{c:Bool}{m:Nat}:({qg (stV a b q n) [98] (if c=true then some rK else none)with n:=m}:SpV)=stV a b c m:=by
 have e:(λx=>if x=[98]then(if c=true then some rK else none)else(stV a b q n).R x)=(stV a b c m).R:=funext λx=>by
  unfold stV;by_cases h:x=[98]
  ·(try simp only[if_pos h])
  ·(try simp only[if_neg h])
 show(⟨(stV a b q n).K,(λx=>if x=[98]then(if c=true then some rK else none)else(stV a b q n).R x),m⟩:SpV)=_;rw[e];rfl
theorem zX(t:Int):cq (stV a b q n) rK t=stV a {b with S:=(gO rK t a b).1,L:=(gO rK t a b).2} q n:=S5
def gV(q:Bool):Gr:=if q=true then [([98],rK)]else []
theorem I2:((gV q).map Prod.fst).Nodup:=by cases q<;>simp[gV]
theorem BQ(k:Tx):aD (gV q) k=(stV a b q n).R k:=by
 cases q
 ·show aD [] k=_;unfold stV;by_cases h:k=[98]<;>simp[h,aD,gz]
 ·show aD [([98],rK)] k=_;unfold stV;by_cases h:k=[98]<;>simp[h,aD,gz]
theorem S7(x:Tx):aK [x]=[x]:=ri (ba _).1 (List.pairwise_singleton _ _) λy=>by rw[(ba _).2]
theorem O5:aK []=[]:=ri (ba _).1 .nil λy=>by rw[(ba _).2]
theorem Vy(k:Tx):ofX (stV a b q n) k=if q=true/\k=[97]then [rK]else []:=by
 have h:=mZ (f:=(stV a b q n).R) (A:=gV q) I2 BQ;have e:ofX (stV a b q n) k=ofG (gV q) k:=BK h.1 I2 (λd=>by rw[h.2,BQ (a:=a) (b:=b) (n:=n)]) (λr=>decide (r.src=k));rw[e];cases q
 ·show pkF [] _=_;unfold pkF;simp[O5]
 ·show pkF [([98],rK)] _=_;unfold pkF;by_cases c:k=[97]
  ·subst c;simp[S7,pkS,rul,aD,gz]
  ·have:¬[97]=k:=λe=>c e.symm
   simp[c,this,O5]
theorem XL:yc (stV a b q n)=if q=true then [rK]else []:=by
 have h:=mZ (f:=(stV a b q n).R) (A:=gV q) I2 BQ;have e:yc (stV a b q n)=uV (gV q):=BK h.1 I2 (λd=>by rw[h.2,BQ (a:=a) (b:=b) (n:=n)]) (λ_=>true);rw[e];cases q
 ·show pkF [] _=_;unfold pkF;simp[O5]
 ·show pkF [([98],rK)] _=_;unfold pkF;simp[S7,pkS,rul,aD,gz]
theorem Vz:m7 (stV a b q n)=[[97],[98]]:=by
 have nd:(([([97],a),([98],b)]:List (Tx×fK)).map Prod.fst).Nodup:=by simp
 have j:∀k,aD ([([97],a),([98],b)]:List (Tx×fK)) k=(stV a b q n).K k:=λk=>by
  unfold stV;by_cases d:k=[98]
  ·subst d;rfl
  ·by_cases f:k=[97]
   ·subst f;rfl
   ·simp[d,f,aD,gz]
 have h:=mZ nd j;refine ri (ba _).1 ?_ λy=>?_
 ·refine .cons (λy c=>?_) (List.pairwise_singleton _ _);rw[q3v]at c;subst c;kernel_rfl
 ·show y∈aK _<->_;rw[(ba _).2];constructor
  ·intro c;obtain⟨⟨k,e⟩,d,rfl⟩:=q0p.1 c;rw[pC h.1,h.2]at d;unfold stV at d;by_cases g:k=[98]
   ·simp[g]
   ·by_cases i:k=[97]
    ·simp[i]
    ·simp[g,i]at d
  ·intro c
   have:∃e,(stV a b q n).K y=some e:=by
    simp only[Z5,Z4,or_false]at c;rcases c with rfl|rfl
    ·exact⟨a,rfl⟩
    ·exact⟨b,rfl⟩
   obtain⟨e,l⟩:=this;exact q0p.2 ⟨(y,e),bJ (by rw[h.2];exact l),rfl⟩
theorem yi:Links (stV a b q n):=λd r h=>by
 unfold stV at h;dsimp only at h;split at h
 ·split at h
  ·injection h with h;subst h;rename_i c _;subst c;exact⟨rfl,rfl⟩
  ·cases h
 ·cases h
theorem Lh{m:Nat}(c:a.L.length<=m)(d:b.L.length<=m):Bnd (stV a b q n) m:=λk e h=>by
 unfold stV at h;dsimp only at h;split at h
 ·injection h with h;subst h;exact d
 ·split at h
  ·injection h with h;subst h;exact c
  ·cases h
end
abbrev sK(m:Int):Sr:=⟨128,0,1,m,0⟩
abbrev eK(m:Int)(L:Smp):fK:=⟨sK m,L,128,nY⟩
abbrev eZ:fK:=eK (-1) []
theorem O6:(iu [97]&&dR nY)=true:=by kernel_rfl
theorem RU:(iu [98]&&dR nY)=true:=by kernel_rfl
theorem O7:cj nY=nY:=by kernel_rfl
theorem GI:qd 128 0 1=some (sK (-1)):=if_pos (by decide)
theorem XM:crF lE [97] 128 0 1 nY=(crK lE [97] eZ,0):=by
 unfold crF;rw[GI];dsimp only;rw[if_pos O6,O7];exact if_neg (by simp[lE])
theorem VA:crK (crK lE [97] eZ) [98] eZ=stV eZ eZ false 2:=by
 unfold crK stV lE;simp
theorem XN:crF (crK lE [97] eZ) [98] 128 0 1 nY=(stV eZ eZ false 2,0):=by
 rw[<-VA];unfold crF;rw[GI];dsimp only;rw[if_pos RU,O7];exact if_neg (by simp[lE,crK])
theorem XO:crF (stV eZ eZ false 2) [97] 128 0 1 nY=(stV eZ eZ false 2,6):=by
 unfold crF;rw[GI];dsimp only;rw[if_pos O6];exact if_pos (by simp[stV])
theorem XQ:cU rK=true:=by kernel_rfl
theorem XR:rlF (stV eZ eZ false 2) rK=(stV eZ eZ true 3,0):=by
 unfold rlF;rw[if_pos XQ,if_pos ⟨rfl,rfl⟩,if_neg (by simp[stV]),Vy,if_neg (by simp[stV])];exact congrArg (·,0) (S6 (c:=true) (m:=3))
theorem XS:lkF (stV eZ eZ false 2) rK=(stV eZ eZ true 3,0):=by
 unfold lkF;rw[XR,if_neg (by simp)];exact congrArg (·,0) S5
theorem VB{a b:fK}{n:Nat}:dD (stV a b true n) [97]=0:=rfl
theorem XT{a b:fK}{n:Nat}:dD (stV a b true n) [98]=10:=rfl
theorem VC{a b:fK}{n:Nat}{t v p:Int}{S:Sr}{L:Smp}(h:gY a.S a.L t v p=((S,L),0)):jY (stV a b true n) [97] t v p=(dN [97] a.S.mx t (stV {a with S:=S,L:=L} b true n) rK,0):=by
 unfold jY;rw[VB,if_neg (λq=>q rfl)];show(if(gY a.S a.L t v p).2≠0 then _ else _)=_;rw[h,if_neg (λq=>q rfl),Vy,if_pos ⟨rfl,rfl⟩];unfold OS;rw[h,S4];rfl
theorem XU:jY (stV eZ eZ true 3) [97] 1 5 0=(stV (eK 1 [(1,5)]) eZ true 3,0):=by
 rw[VC (S:=sK 1) (L:=[(1,5)]) (by kernel_rfl)];unfold dN;rw[if_neg (by intro h;exact absurd h.1 (by decide)),zX];rfl
theorem XV:jY (stV (eK 1 [(1,5)]) eZ true 3) [97] 5 6 0=(stV (eK 5 [(1,5),(5,6)]) eZ true 3,0):=by
 rw[VC (S:=sK 5) (L:=[(1,5),(5,6)]) (by kernel_rfl)];unfold dN;rw[if_pos ⟨by decide,by decide⟩,zX,zX];rfl
theorem Y5:sZ (stV (eK 5 [(1,5),(5,6)]) eZ true 3) [97] 12 1=(stV (eK 12 [(1,5),(5,6),(12,7)]) (eK 0 [(0,11)]) true 3,7,0):=by
 have e:jY (stV (eK 5 [(1,5),(5,6)]) eZ true 3) [97] 12 7 3=(stV (eK 12 [(1,5),(5,6),(12,7)]) (eK 0 [(0,11)]) true 3,0):=by
  rw[VC (S:=sK 12) (L:=[(1,5),(5,6),(12,7)]) (by kernel_rfl)];unfold dN;rw[if_pos ⟨by decide,by decide⟩,zX,zX];have d:gO rK 5 (eK 12 [(1,5),(5,6),(12,7)]) eZ=(sK 0,[(0,11)]):=by kernel_rfl
  rw[d];have c:gO rK 12 (eK 12 [(1,5),(5,6),(12,7)]) (eK 0 [(0,11)])=(sK 0,[(0,11)]):=by kernel_rfl
  exact congrArg (λz:Sr×Smp=>((stV (eK 12 [(1,5),(5,6),(12,7)]) ⟨z.1,z.2,128,nY⟩ true 3,0):SpV×Int)) c
 unfold sZ;rw[VB,if_neg (λq=>q rfl)];have c:nX (vAt [(1,5),(5,6)] (List.length [(1,5),((5,6):Int×Int)]-1)) 1=(7,0):=by kernel_rfl
 show(if(12:Int)<0∨1099511627776<=(12:Int)then _ else _)=_;rw[if_neg (by decide),if_neg (by decide),c,if_neg (λq=>q rfl),e,if_neg (λq=>q rfl)]
theorem XW:jY (stV (eK 12 [(1,5),(5,6),(12,7)]) (eK 0 [(0,11)]) true 3) [98] 1 5 0=(stV (eK 12 [(1,5),(5,6),(12,7)]) (eK 0 [(0,11)]) true 3,10):=by
 unfold jY;rw[XT];exact if_pos (by decide)
theorem Y6:sY (stV (eK 12 [(1,5),(5,6),(12,7)]) (eK 0 [(0,11)]) true 3) [97] 5 5=(stV (eK 12 [(1,5),(12,7)]) (eK 0 [(0,5)]) true 3,1,0):=by
 unfold sY;rw[VB,if_neg (λq=>q rfl),Vy,if_pos ⟨rfl,rfl⟩];show(dF (bH 5 5 [(1,5),(5,6),(12,7)]) (fO (stV _ _ true 3) [97] _) rK,_,_)=_;rw[S4];have e0:bH 5 5 [(1,5),(5,6),(12,7)]=[(5,6)]:=by kernel_rfl
 have d:aO [(1,5),(5,6),(12,7)] 5 5=[(1,5),(12,7)]:=by kernel_rfl
 have c:bB rK 5=0:=by kernel_rfl
 have f:gO rK 0 (eK 12 [(1,5),(12,7)]) (eK 0 [(0,11)])=(sK 0,[(0,5)]):=by kernel_rfl
 show(dF (bH 5 5 [(1,5),(5,6),(12,7)]) (stV ⟨sK 12,aO [(1,5),(5,6),(12,7)] 5 5,128,nY⟩ _ true 3) rK,(((List.length [(1,5),(5,6),((12,7):Int×Int)]-(aO [(1,5),(5,6),(12,7)] 5 5).length:Nat):Int),(0:Int)))=_;rw[e0,d];unfold dF sX;show((cO rK (-1,_) (5,6)).2,_)=_;unfold cO;rw[if_pos (by rw[c];decide)];show(cq (stV _ _ true 3) rK (bB rK 5),_,_)=_;rw[c,zX,f];rfl
theorem Y7:ua (stV (eK 12 [(1,5),(12,7)]) (eK 0 [(0,5)]) true 3) [97] [98]=(stV (eK 12 [(1,5),(12,7)]) (eK 0 [(0,5)]) false 3,0):=by
 unfold ua;show(if rK.src=[97]then _ else _)=_;rw[if_pos rfl];exact congrArg (·,0) (S6 (c:=false) (m:=3))
theorem XX:few (bH 0 1099511627776 []):= .inl rfl
theorem S8:bH 0 1099511627776 [(0,11)]=[(0,11)]:=by kernel_rfl
theorem S9:bH 0 1099511627776 [(0,5)]=[(0,5)]:=by kernel_rfl
def I3(args:List AV)(H:AH)(n:Nat)(κ:PK):Prop:=match args with
 |a::f=>∃b p X k c,a=aA p/\b<n/\n<800000/\Res H n f c [.ss k]/\c.get b=some (.sep (SpB.Q X p))/\ia c 5 n=true/\((X.K k=none/\κ .nil (c.set (some (.sep (SpB.Q X p))) aa b) (n+5))∨∃e,X.K k=some e/\∀d,κ (aA d) ((c.set (some (.sep (SpB.Q X p))) aa b).set (some (.sep (cn d e.S e.L))) aa (n+5)) (n+6))
 |_=>False
theorem O8:al 16 I3:=λargs H n g c=>by
 unfold I3 at c;split at c
 ·obtain⟨b,p,X,k,h,i,j,l,m,o,q,a⟩:=c;refine GH _ H n g ⟨b,p,X,[.ss k],X,_,h,i,j,l,m,o,q,⟨k,rfl,rfl,rfl⟩,λv E d=>?_⟩;rcases a with⟨f,a⟩|⟨e,f,a⟩
  ·rw[f]at d;obtain⟨rfl,rfl⟩:=d;exact a
  ·rw[f]at d;obtain⟨r,rfl,rfl⟩:=d;exact a r
 ·exact c.elim
def XY:FuncId->EP:=ao 9 (sJ 5 SpB λcs y=>cs=[]/\y=lE) (ao 46 (cK 5 SpB RA) (ao 48 (cK 5 SpB Vs) (ao 32 (cK 5 SpB qb) (ao 45 (dM 5 SpB Ew) (ao 19 (cK 5 SpB O1) (ao 44 (cK 5 SpB BP) (ao 35 (dM 5 SpB XG) (ao 49 (cK 5 SpB Vn) (ao 12 (dM 5 SpB Vm) (ao 25 (dM 5 SpB Vl) (ao 16 I3 (ao 57 (sG SO) (ao 27 (cK 5 SpB OV) (ao 20 (DY 1000000 lp) (ao 30 (bV Vx) evP)))))))))))))))
theorem RV:aS XY:=ab (ab (ab (ab (ab (ab (ab (ab (ab (ab (ab (ab (ab (ab (ab (ab az XK) H9) yf) UD) O8) Eo) zW) ye) Ev) IZ) Eu) O4) IT) Es) yg) I0
def XZ:FuncId->EP:=aX 14 [(1000005,[])] XY
theorem RW:aS XZ:=au RV (by kernel_rfl) (by kernel_rfl)
theorem X3:few (bH 0 1099511627776 [(0,11)]):=by rw[S8];exact .inr ⟨0,11,rfl,by decide,by decide⟩
theorem X4:few (bH 0 1099511627776 [(0,5)]):=by rw[S9];exact .inr ⟨0,5,rfl,by decide,by decide⟩
theorem X5:AV.tup [.fr 1 2 (smp [(0,11)]),.si .i64 0]= .tup [.fr (bH 0 1099511627776 [(0,11)]).length 2 (smp (bH 0 1099511627776 [(0,11)])),.si .i64 0]:=by rw[S8];rfl
theorem X6:AV.tup [.fr 1 2 (smp [(0,5)]),.si .i64 0]= .tup [.fr (bH 0 1099511627776 [(0,5)]).length 2 (smp (bH 0 1099511627776 [(0,5)])),.si .i64 0]:=by rw[S9];rfl
theorem X7:lp [(0,11)] [(0,11)]=true:=by kernel_rfl
theorem X8:lp [(0,5)] [(0,5)]=true:=by kernel_rfl
theorem BR{X:SpV}{k:Tx}:(dt X k).K k=none:=by
 unfold dt;split
 ·exact if_pos rfl
 ·rename_i h;cases e:X.K k with
  |none=>rfl
  |some y=>rw[e]at h;exact absurd rfl h
theorem RX{X:SpV}{k:Tx}(h:X.K k=none):dt X k=X:=by
 unfold dt;rw[h];rfl
theorem X9{X:SpV}{k:Tx}:dt X k=dt (dt X k) k:=(RX BR).symm
theorem Ya{X:SpV}{k:Tx}:AV.sb false= .sb ((dt X k).K k).isSome:=by rw[BR];rfl
def knO (w:Nat×Nat):AE×AH:=(mkE [(0,.sb (false)),(1,aA w),(2,.ptr 7 (0))],mkH [(0,.sep (SpB.Q lE w)),(7,.cells [.int .i64 128,.int .i64 0,.int .i64 1,.fr 1 2 (cM nY)] true)])
theorem RY{w:Nat×Nat}{p n:Nat}{σ:AE}{H:AH}(a:p<=8)(e0:mk (ai (pa 0) σ)= .sb (false))(b:ai (pa 1) σ=aA w)(c:ai (pa 2) σ= .ptr 7 (0))(d:H.get 0=some (.sep (SpB.Q lE w)))(e:H.get 7=some (.cells [.int .i64 128,.int .i64 0,.int .i64 1,.fr 1 2 (cM nY)] true)):Cov p σ H n ((knO w).1,(knO w).2,8):=
 Cov.ofA a ⟨.bool e0,ae.aA b,.ptr (by decide) c,trivial⟩ ⟨.inl ⟨_,d,ak.sep _⟩,.inl ⟨_,e,ak.refl rfl⟩,trivial⟩ rfl
theorem Li:ax XZ 6 14 [] .nil 0 (λu _ _=>mkT u=AV.sb true):=by
 conv=>whnf
 refine⟨[],lE,_,by decide,.nil,rfl,⟨rfl,rfl⟩,λp=>?_⟩
 conv=>whnf
 refine qq.mk Unit 8 (λ_=>knO p) ?_ ?_
 focus
  conv=>whnf
  exact⟨(),Cov.pre (λe f h a=>a.RT (c:=7) (b:=6) (i:=3) (m:=1) (k:=2) (s:=cM nY) rfl rfl rfl (by decide) (by decide) rfl rfl rfl) (RY (w:=p) (Z9 8) rfl rfl rfl rfl rfl)⟩
 intro _
 conv=>whnf
 refine⟨0,p,lE,[.ss [97],GB 128 0 1 nY],(crK lE [97] eZ),.si .i64 0,_,rfl,by decide,by decide,.cons (.told rfl) (.cons (.agg rfl) .nil),rfl,rfl,⟨[97],128,0,1,nY,((crK lE [97] eZ),0),rfl,by decide,by decide,XM,rfl,rfl⟩,?_⟩
 conv=>whnf
 refine⟨0,p,(crK lE [97] eZ),[.ss [98],GB 128 0 1 nY],(stV (eZ) (eZ) false 2),.si .i64 0,_,rfl,by decide,by decide,.cons (.told rfl) (.cons (.agg rfl) .nil),rfl,rfl,⟨[98],128,0,1,nY,((stV (eZ) (eZ) false 2),0),rfl,by decide,by decide,XN,rfl,rfl⟩,?_⟩
 conv=>whnf
 refine⟨0,p,(stV (eZ) (eZ) false 2),[.ss [97],GB 128 0 1 nY],(stV (eZ) (eZ) false 2),.si .i64 6,_,rfl,by decide,by decide,.cons (.told rfl) (.cons (.agg rfl) .nil),rfl,rfl,⟨[97],128,0,1,nY,((stV (eZ) (eZ) false 2),6),rfl,by decide,by decide,XO,rfl,rfl⟩,?_⟩
 conv=>whnf
 refine⟨0,p,(stV (eZ) (eZ) false 2),[gR rK],(stV (eZ) (eZ) true 3),.si .i64 0,_,rfl,by decide,by decide,.cons (.agg rfl) .nil,rfl,rfl,⟨rK,((stV (eZ) (eZ) true 3),0),rfl,by decide,Lh (by decide) (by decide),XS,rfl,rfl⟩,?_⟩
 conv=>whnf
 refine⟨0,p,(stV (eZ) (eZ) true 3),[.ss [97],.agg [.si .i64 1,.si .i64 5],.si .i64 0],(stV (eK 1 [(1,5)]) (eZ) true 3),.si .i64 0,_,rfl,by decide,by decide,.cons (.told rfl) (.cons (.agg rfl) (.cons (.told rfl) .nil)),rfl,rfl,⟨[97],1,5,0,((stV (eK 1 [(1,5)]) (eZ) true 3),0),rfl,⟨by decide,by decide⟩,yi,Lh (by decide) (by decide),XU,rfl,rfl⟩,?_⟩
 conv=>whnf
 refine⟨0,p,(stV (eK 1 [(1,5)]) (eZ) true 3),[.ss [97],.agg [.si .i64 5,.si .i64 6],.si .i64 0],(stV (eK 5 [(1,5),(5,6)]) (eZ) true 3),.si .i64 0,_,rfl,by decide,by decide,.cons (.told rfl) (.cons (.agg rfl) (.cons (.told rfl) .nil)),rfl,rfl,⟨[97],5,6,0,((stV (eK 5 [(1,5),(5,6)]) (eZ) true 3),0),rfl,⟨by decide,by decide⟩,yi,Lh (by decide) (by decide),XV,rfl,rfl⟩,?_⟩
 conv=>whnf
 refine⟨0,p,(stV (eK 5 [(1,5),(5,6)]) (eZ) true 3),[.ss [98],O3],.tup [.fr (List.length []) 2 (smp []),.si .i64 0],rfl,by decide,by decide,.cons (.told rfl) (.cons (.agg rfl) .nil),rfl,rfl,⟨[98],.inr ⟨eZ,rfl,rfl,XX,rfl⟩⟩,?_⟩
 conv=>whnf
 refine⟨0,p,(stV (eK 5 [(1,5),(5,6)]) (eZ) true 3),[.ss [97],.si .i64 12,.si .i64 1],(stV (eK 12 [(1,5),(5,6),(12,7)]) (eK 0 [(0,11)]) true 3),.tup [.si .i64 7,.si .i64 0],_,rfl,by decide,by decide,.cons (.told rfl) (.cons (.told rfl) (.cons (.told rfl) .nil)),rfl,rfl,⟨[97],12,1,((stV (eK 12 [(1,5),(5,6),(12,7)]) (eK 0 [(0,11)]) true 3),7,0),rfl,yi,Lh (by decide) (by decide),Y5,rfl,rfl⟩,?_⟩
 conv=>whnf
 refine⟨0,p,(stV (eK 12 [(1,5),(5,6),(12,7)]) (eK 0 [(0,11)]) true 3),[.ss [98],O3],.tup [.fr (List.length [(0,11)]) 2 (smp [(0,11)]),.si .i64 0],rfl,by decide,by decide,.cons (.told rfl) (.cons (.agg rfl) .nil),rfl,rfl,⟨[98],.inr ⟨eK 0 [(0,11)],rfl,rfl,X3,X5⟩⟩,?_⟩
 conv=>whnf
 refine⟨0,p,(stV (eK 12 [(1,5),(5,6),(12,7)]) (eK 0 [(0,11)]) true 3),[.ss [98],.agg [.si .i64 1,.si .i64 5],.si .i64 0],(stV (eK 12 [(1,5),(5,6),(12,7)]) (eK 0 [(0,11)]) true 3),.si .i64 10,_,rfl,by decide,by decide,.cons (.told rfl) (.cons (.agg rfl) (.cons (.told rfl) .nil)),rfl,rfl,⟨[98],1,5,0,((stV (eK 12 [(1,5),(5,6),(12,7)]) (eK 0 [(0,11)]) true 3),10),rfl,⟨by decide,by decide⟩,yi,Lh (by decide) (by decide),XW,rfl,rfl⟩,?_⟩
 conv=>whnf
 refine⟨0,p,(stV (eK 12 [(1,5),(5,6),(12,7)]) (eK 0 [(0,11)]) true 3),[.ss [97],.si .i64 5,.si .i64 5],(stV (eK 12 [(1,5),(12,7)]) (eK 0 [(0,5)]) true 3),.tup [.si .i64 1,.si .i64 0],_,rfl,by decide,by decide,.cons (.told rfl) (.cons (.told rfl) (.cons (.told rfl) .nil)),rfl,rfl,⟨[97],5,5,((stV (eK 12 [(1,5),(12,7)]) (eK 0 [(0,5)]) true 3),1,0),rfl,yi,Lh (by decide) (by decide),Y6,rfl,rfl⟩,?_⟩
 conv=>whnf
 refine⟨0,p,(stV (eK 12 [(1,5),(12,7)]) (eK 0 [(0,5)]) true 3),[.ss [98],O3],.tup [.fr (List.length [(0,5)]) 2 (smp [(0,5)]),.si .i64 0],rfl,by decide,by decide,.cons (.told rfl) (.cons (.agg rfl) .nil),rfl,rfl,⟨[98],.inr ⟨eK 0 [(0,5)],rfl,rfl,X4,X6⟩⟩,?_⟩
 conv=>whnf
 refine⟨0,p,(stV (eK 12 [(1,5),(12,7)]) (eK 0 [(0,5)]) true 3),[.ss [97]],XF (some (eK 12 [(1,5),(12,7)])),rfl,by decide,by decide,.cons (.told rfl) .nil,rfl,rfl,⟨[97],rfl,rfl⟩,?_⟩
 conv=>whnf
 refine⟨0,p,(stV (eK 12 [(1,5),(12,7)]) (eK 0 [(0,5)]) true 3),[.ss [99],q0],.tup [.nsl,.si .i64 5],rfl,by decide,by decide,.cons (.told rfl) (.cons (.agg rfl) .nil),rfl,rfl,⟨[99],.inl ⟨rfl,rfl,rfl⟩⟩,?_⟩
 conv=>whnf
 refine⟨0,p,(stV (eK 12 [(1,5),(12,7)]) (eK 0 [(0,5)]) true 3),[.ss [97],.ss [98]],(stV (eK 12 [(1,5),(12,7)]) (eK 0 [(0,5)]) false 3),.si .i64 0,_,rfl,by decide,by decide,.cons (.told rfl) (.cons (.told rfl) .nil),rfl,rfl,⟨[97],[98],((stV (eK 12 [(1,5),(12,7)]) (eK 0 [(0,5)]) false 3),0),rfl,Y7,rfl,rfl⟩,?_⟩
 conv=>whnf
 iterate 9
  refine ag.dec (λ_=>?_) (λz=>absurd (by decide) z)
  conv=>whnf
 refine⟨[(0,11)],[(0,11)],.inr (.inl (.inr ⟨_,rfl,rfl,by decide⟩)),.inr (.inr ⟨_,_,_,_,_,_,rfl,.inr ⟨_,rfl⟩,rfl,rfl,by decide⟩),by decide,by decide,?_⟩
 conv=>whnf
 refine ag.sb (λ_=>?_) (λz=>absurd (X7.symm.trans z) (by decide))
 conv=>whnf
 iterate 4
  refine ag.dec (λ_=>?_) (λz=>absurd (by decide) z)
  conv=>whnf
 refine⟨[(0,5)],[(0,5)],.inr (.inl (.inr ⟨_,rfl,rfl,by decide⟩)),.inr (.inr ⟨_,_,_,_,_,_,rfl,.inr ⟨_,rfl⟩,rfl,rfl,by decide⟩),by decide,by decide,?_⟩
 conv=>whnf
 refine ag.sb (λ_=>?_) (λz=>absurd (X8.symm.trans z) (by decide))
 conv=>whnf
 refine ag.sb (λ_=>?_) (λz=>absurd z (by decide))
 conv=>whnf
 iterate 3
  refine ag.dec (λ_=>?_) (λz=>absurd (by decide) z)
  conv=>whnf
 refine⟨0,p,(stV (eK 12 [(1,5),(12,7)]) (eK 0 [(0,5)]) false 3),[],.fr 0 5 [],rfl,by decide,by decide,.nil,rfl,rfl,⟨rfl,by rw[XL];rfl⟩,?_⟩
 conv=>whnf
 iterate 1
  refine ag.dec (λ_=>?_) (λz=>absurd (by decide) z)
  conv=>whnf
 refine⟨0,p,(stV (eK 12 [(1,5),(12,7)]) (eK 0 [(0,5)]) false 3),[],.fr 2 1 (strs [[97],[98]]),rfl,by decide,by decide,.nil,rfl,rfl,⟨rfl,by rw[Vz];rfl⟩,?_⟩
 conv=>whnf
 refine⟨[.fr 2 1 (strs [[97],[98]]),.fr 2 1 (strs [[97],[98]])],.sb true,_,.cons .same (.cons (.sl rfl rfl rfl rfl) .nil),⟨[[97],[98]],[[97],[98]],rfl,by decide,rfl⟩,?_⟩
 conv=>whnf
 refine ag.sb (λ_=>?_) (λz=>absurd z (by decide))
 conv=>whnf
 refine⟨0,p,(stV (eK 12 [(1,5),(12,7)]) (eK 0 [(0,5)]) false 3),[97],_,rfl,by decide,by decide,.cons (.told rfl) .nil,rfl,rfl,.inr ⟨_,rfl,λd=>?_⟩⟩
 conv=>whnf
 refine⟨102,d,_,_,_,rfl,by decide,rfl,⟨by decide,rfl,rfl,rfl,rfl⟩,⟨rfl,rfl⟩,?_⟩
 conv=>whnf
 iterate 1
  refine ag.dec (λ_=>?_) (λz=>absurd (by decide) z)
  conv=>whnf
 refine⟨0,p,(stV (eK 12 [(1,5),(12,7)]) (eK 0 [(0,5)]) false 3),[.ss [97]],(dt (stV (eK 12 [(1,5),(12,7)]) (eK 0 [(0,5)]) false 3) [97]),.sb true,_,rfl,by decide,by decide,.cons (.told rfl) .nil,rfl,rfl,⟨[97],rfl,rfl,rfl⟩,?_⟩
 conv=>whnf
 refine ag.sb (λ_=>?_) (λz=>absurd z (by decide))
 conv=>whnf
 refine⟨0,p,(dt (stV (eK 12 [(1,5),(12,7)]) (eK 0 [(0,5)]) false 3) [97]),[.ss [97]],(dt (stV (eK 12 [(1,5),(12,7)]) (eK 0 [(0,5)]) false 3) [97]),.sb false,_,rfl,by decide,by decide,.cons (.told rfl) .nil,rfl,rfl,⟨[97],rfl,X9,Ya⟩,?_⟩
 conv=>whnf
 exact rfl
end Go.Proofs.YtflehenfikoniaaGreat
namespace Go.Proofs.YtflehenfikoniaaGreat
open Go Go.RowKit Go.ChangeShapes Go.WideShapes
theorem Lj:al 14 xu:=λargs H n f b g c h i K d a e=>by
 unfold xu at b;split at b
 ·exact il (v:= .bool true) RW rfl Li b d e (by kernel_rfl) HR.ro0 (by rw[a.aQ];exact .nil)
 ·exact b.elim
structure Oq where
 kind:Int
 key:Tx
 t:Int
 v:Int
 p:Int
 z:Int
 ret:Int
 pol:Int
 lab:List Lab
 r:Rl
def opC(o:Oq):List AV:=[.si .i64 o.kind,.ss o.key,.si .i64 o.t,.si .i64 o.v,.si .i64 o.p,.si .i64 o.z,.si .i64 o.ret,.si .i64 o.pol,gL o.lab,.ss o.r.src,.ss o.r.dst,.si .i64 o.r.kind,.si .i64 o.r.size,.si .i64 o.r.align]
def oqC(S:List Oq):List AV:=S.flatMap opC
theorem O9(o:Oq):(opC o).all mB=true:=rfl
theorem Ex:∀S:List Oq,(oqC S).all mB=true
 | []=>rfl
 |o::S=>by
  show((opC o)++oqC S).all mB=true;rw[List.all_append,O9,Ex S];rfl
theorem yj(S:List Oq):(oqC S).length=S.length*14:=by
 induction S with
 |nil=>rfl
 |cons o S a=>show(opC o++oqC S).length=_;rw[Z6,a,q0a];show 14+_=_;omega
theorem Pb(S:List Oq)(i:Nat):(oqC S).drop (i*14)=oqC (S.drop i):=by
 induction S generalizing i with
 |nil=>simp[oqC]
 |cons o S a=>
  cases i with
  |zero=>rw[q1u,q4w,q4w]
  |succ i=>
   rw[List.drop_succ_cons,<-a];show(opC o++oqC S).drop _=_;rw[show(i+1)*14=(opC o).length+i*14 by show _=14+_;omega,List.drop_append,List.drop_of_length_le (by omega),q2m];congr 1;omega
theorem I4{S:List Oq}{i o:Nat}(h:i<S.length)(ho:o=i*14):bl (oqC S) o 14=some (opC S[i]):=by
 subst ho;unfold bl;rw[q0z (by rw[yj];omega),Pb,q0t h];rfl
structure Oq.In(o:Oq):Prop where
 kind:aR o.kind
 t:aR o.t
 v:aR o.v
 p:aR o.p
 lab:o.lab.length<=maxLen
section
variable {H:Type} {enc:TypeId×Value->H} {P:Program} {W:World} {held:Bool}
def Pc:Value->Tx
 | .string s=>s.data.toList.map UInt8.toNat
 |_=> []
def Ey:List Value->Lab
 | [a,b]=>(Pc a,Pc b)
 |_=>([],[])
theorem zY{Tr:TypeId->Value->Prop}:∀{rows:List (List Value)},(∀r∈rows,jH Tr [.str,.str] r)->∀φ:Ph,VRs φ (cM (rows.map Ey)) rows.flatten
 | [],_,φ=> .nil
 |r::rows,h,φ=>by
  obtain⟨d,c⟩:=h r q0i
  match r,d,c with
  | [v,w],_,c=>
   obtain⟨a,rfl,f⟩:=c 0 _ v rfl rfl
   obtain⟨b,rfl,g⟩:=c 1 _ w rfl rfl
   exact .cons (kI a) (.cons (kI b) (zY (λx e=>h x (q0f _ e)) φ))
theorem zZ:∀l:List Lab,(cM l).all mB=true
 | []=>rfl
 |y::l=>zZ l
theorem Pd(l:List Lab):(cM l).length=l.length*2:=by
 induction l with
 |nil=>rfl
 |cons y l a=>show(cM l).length+1+1=_;rw[a,q0a];omega
theorem Lk{t e:TypeId}{d fuel:Nat}{v:Value}{D:DataW H}{j:List MemPlace}(l:P.underlying t=some (.slice e))(n:AP P d e=some [.str,.str])(g:P.cellsOf e=2)(o:DataW.trod enc P W 0 (λ_=>true) held fuel t [v]=some (D,j)):
 ∃(L:List Lab) (z:Fz->Prop),lj W z/\(∀χ:Ph,(∀q,z q->χ.z q)->VR χ (gL L) v)/\L.length<=maxLen:=by
 obtain⟨rows,p,G,s,w⟩:=wL l n rfl g (by decide) o
 rcases w with⟨rfl,a,C,rfl,x⟩|⟨b,off,cap,I,u,fz,rfl,f,y,h,c⟩
 ·exact⟨[],λ_=>False,.none,λχ _=> .fre x,Z9 _⟩
 ·obtain⟨A,B⟩:=Hf (m:=rows.length) (k:=2) (L:=cM (rows.map Ey)) (z:=λq=>q=⟨b,off,cM (rows.map Ey)⟩) y f (by rw[Pd,q0g]) h (zZ _) rfl (zY (λr E=>(p r E).1) _) c
  exact⟨rows.map Ey,λq=>q=⟨b,off,cM (rows.map Ey)⟩,λq F=>by subst F;exact A,λχ i=>by unfold gL;rw[q0g];exact B χ i,by rw[q0g];exact s⟩
abbrev VD(t:TypeId):List Kd:=[.int .i64,.str,.int .i64,.int .i64,.int .i64,.int .i64,.int .i64,.int .i64,.sl t,.str,.str,.int .i64,.int .i64,.int .i64]
theorem RZ{p el:TypeId}{d:Nat}{r:List Value}(s:P.underlying p=some (.slice el))(b:AP P d el=some [.str,.str])(c:P.cellsOf el=2)(h:jH (TrS enc P W 0 (λ_=>true) held) (VD p) r):
 ∃(o:Oq) (z:Fz->Prop),o.In/\lj W z/\∀χ:Ph,(∀q,z q->χ.z q)->VRs χ (opC o) r:=by
 obtain⟨t,a⟩:=h
 match r,t,a with
 | [u,v,w,x,y,A,B,C,D,E,v10,v11,e,f],_,a=>
  obtain⟨F,rfl,G⟩:=a 0 _ u rfl rfl
  obtain⟨I,rfl,_⟩:=a 1 _ v rfl rfl
  obtain⟨J,rfl,K⟩:=a 2 _ w rfl rfl
  obtain⟨M,rfl,N⟩:=a 3 _ x rfl rfl
  obtain⟨O,rfl,Q⟩:=a 4 _ y rfl rfl
  obtain⟨R,rfl,_⟩:=a 5 _ A rfl rfl
  obtain⟨S,rfl,_⟩:=a 6 _ B rfl rfl
  obtain⟨T,rfl,_⟩:=a 7 _ C rfl rfl
  obtain⟨g,⟨D2,U⟩,i⟩:=a 8 _ D rfl rfl
  obtain⟨V,rfl,_⟩:=a 9 _ E rfl rfl
  obtain⟨j,rfl,_⟩:=a 10 _ v10 rfl rfl
  obtain⟨k,rfl,_⟩:=a 11 _ v11 rfl rfl
  obtain⟨l,rfl,_⟩:=a 12 _ e rfl rfl
  obtain⟨m,rfl,_⟩:=a 13 _ f rfl rfl
  obtain⟨L,z,X,Y,Z⟩:=Lk s b c i;exact⟨⟨F,Pc (.string I),J,M,O,R,S,T,L,⟨Pc (.string V),Pc (.string j),k,l,m⟩⟩,z,⟨.of G,.of K,.of N,.of Q,Z⟩,X,λχ n=> .cons (.si _ _) (.cons (kI _) (.cons (.si _ _) (.cons (.si _ _) (.cons (.si _ _) (.cons (.si _ _) (.cons (.si _ _) (.cons (.si _ _) (.cons (Y χ n) (.cons (kI _) (.cons (kI _) (.cons (.si _ _) (.cons (.si _ _) (.cons (.si _ _) .nil)))))))))))))⟩
theorem R0{t e s el:TypeId}{d d2:Nat}{v:Value}{D:DataW H}{U:List MemPlace}(V:P.underlying t=some (.slice e))(X:AP P d e=some (VD s))(w:P.cellsOf e=14)(Y:P.underlying s=some (.slice el))(A:AP P d2 el=some [.str,.str])(B:P.cellsOf el=2)(j:v.cells.toList=[v])(hd:DataW.Trod enc P W 0 (λ_=>true) held t v D U):
 ∃(S:List Oq) (z:Fz->Prop),(∀o∈S,o.In)/\lj W z/\(∀χ:Ph,(∀q,z q->χ.z q)->VR χ (.fr S.length 14 (oqC S)) v)/\(S=[]∨∃E F,D= .slice ((List.range S.length).map F) E)/\S.length<=maxLen:=by
 obtain⟨fuel,Q⟩:=hd;rw[j]at Q;obtain⟨rows,Z,h2,h3,h4⟩:=wL (c:=14) V X rfl w (by decide) Q
 rcases h4 with⟨rfl,a,C,rfl,hC⟩|⟨b,off,cap,cc,u,fz,rfl,l,hb,G,n⟩
 ·exact⟨[],λ_=>False,(λx h=>by cases h),.none,λχ _=> .fre hC,.inl rfl,Z9 _⟩
 ·have inner:∀(R:List (List Value)),(∀r∈R,jH (TrS enc P W 0 (λ_=>true) held) (VD s) r/\r.length=14)->∃(S:List Oq) (z:Fz->Prop),S.length=R.length/\(∀o∈S,o.In)/\lj W z/\∀χ:Ph,(∀q,z q->χ.z q)->VRs χ (oqC S) R.flatten:=λR=>by
   induction R with
   |nil=>intro _;exact⟨[],λ_=>False,rfl,(λx h=>by cases h),.none,λχ _=> .nil⟩
   |cons r R ih=>
    intro T;obtain⟨S,z,i,I,J,K⟩:=ih λx p=>T x (q0f _ p)
    obtain⟨g1,g2⟩:=T r q0i;obtain⟨o,y,M,N,j3⟩:=RZ Y A B g1;refine⟨o::S,λq=>y q∨z q,by simp[i],λx p=>?_,N.or J,λχ g=>?_⟩
    ·rcases Z5.1 p with rfl|p
     ·exact M
     ·exact I x p
    ·show VRs χ (opC o++oqC S) (r++R.flatten);exact(j3 χ λq f=>g q (.inl f)).append (K χ λq f=>g q (.inr f))
  obtain⟨S,z,i,I,J,K⟩:=inner rows Z
  let O:Fz->Prop:=λq=>z q∨q=⟨b,off,oqC S⟩
  obtain⟨M,N⟩:=Hf (m:=rows.length) (k:=14) (L:=oqC S) (z:=O) hb l (by rw[yj,i]) G (Ex S) (.inr rfl) (K _ λq f=> .inl f) n;exact⟨S,O,I,λq f=>f.elim (λf=>FzR.mono (φ:=phF z) (ψ:=phF O) (λ_ h=>Or.inl h) (J q f)) (λf=>by subst f;exact M),λχ g=>by rw[i];exact N χ g,by rw[i];exact h2.imp (λq=>by rw[q]at i;exact q0j i) id,by rw[i];exact h3⟩
end
end Go.Proofs.YtflehenfikoniaaGreat
end
