/- Texts of our own, joined: the engine, the machine that runs code, and what is known of the functions. -/
import Derived.Test.YtflehenfikoniaaGreatRows
import Derived.WalkKit
import Derived.Deep.Quiet
import Derived.ProofKit
import Derived.Laws.StructEq
import Derived.LaidEql
import Derived.Laws.BytesArg
import Derived.Maps.RangeRun
import Derived.RangeFuncSeq
import Derived.Scope
import Derived.Laws.Strings
import Derived.Laws.Strings2
import Derived.Below
import Derived.Carry
import Derived.OpenShut
import Derived.ChangeMaps5
import Derived.Deep.Slices
import Derived.Deep.SlicePairs
import Derived.SizedLaws
import Derived.Laws.BitsAllLaws
import Derived.Test.YtflehenfikoniaaGreatJc
import Derived.RangeFuncRecord
import Derived.Test.YtflehenfikoniaaGreatJb
set_option linter.unusedSimpArgs false
set_option linter.unusedVariables false
set_option maxHeartbeats 16000000
set_option maxRecDepth 100000
namespace Go.Proofs.YtflehenfikoniaaGreat
open Go Go.RowKit
noncomputable def B6 (le:List (Nat×AV)) (S:Sr) (V:Ps) (C:Ck5) (Bx:List AV):AE×AH×Nat:=(mkE le,mkH [(0,.cells (cR S 3 V.length) true),(3,.cells (aU V) true),(2,di S C),(4,.cells Bx true)],5)
def tp (j1 j4:Nat):Nat->Nat:=fun b=>if b=3 then j1 else if b=4 then j4 else b
theorem vJ {p:Nat} {σ:AE} {H:AH} {n:Nat} {S:Sr} {V:Ps} {C:Ck5} {Bx:List AV} (j1 j4:Nat) {le:List (Nat×AV)} {a0 a1 a2 a3 a4 a5:AV} {l Bc:List AV} (hp:p<=3) (he:∀x∈le,ah H 5 (tp j1 j4) (ak (pa x.1) σ) x.2) (hj:j1≠0/\j1≠2/\j1≠j4) (hj4:j4≠0/\j4≠2)
 (hc:PM.get H 0=some (.cells [a0,a1,a2,a3,a4,a5] true)) (h0:mk a0= .si .i64 (S.sz:Int)) (h1:mk a1= .si .i64 S.ret) (h2:mk a2= .si .i64 S.pol) (h3:mk a3= .si .i64 S.mx) (h4:mk a4= .si .i64 S.fl) (h5:ah H 5 (tp j1 j4) a5 (.rw 3 0 V.length 1 0))
 (hl:PM.get H j1=some (.cells l true)) (hl2:l.map mk=aU V) (hq:PM.get H 2=some (di S C)) (hb:PM.get H j4=some (.cells Bc true)) (hb2:Bc.map mk=Bx.map mk) (hb3:Bx.all flat.flat1=true):Cov p σ H n (B6 le S V C Bx):=by
 refine Cov.ofR (m:=5) (p:=p) (tp j1 j4) (by omega) (fun b hb=>by unfold tp;rw[if_neg (by omega),if_neg (by omega)]) he ?_ ?_
 ·intro x hx;simp only[List.mem_cons,List.not_mem_nil,or_false]at hx;rcases hx with rfl|rfl|rfl|rfl
  ·exact⟨Nat.le_of_ble_eq_true rfl,.inl ⟨_,hc,au.cR h0 h1 h2 h3 h4 h5⟩⟩
  ·exact⟨Nat.le_of_ble_eq_true rfl,.inl ⟨_,hl,au.aU hl2⟩⟩
  ·exact⟨Nat.le_of_ble_eq_true rfl,.inl ⟨_,hq,au.sep _⟩⟩
  ·exact⟨Nat.le_of_ble_eq_true rfl,.inl ⟨_,hb,au.bz hb3 hb2 (fun q=>q)⟩⟩
 ·intro x hx y hy e;simp only[List.mem_cons,List.not_mem_nil,or_false]at hx hy;rcases hx with rfl|rfl|rfl|rfl<;>rcases hy with rfl|rfl|rfl|rfl
  ·rfl
  ·exact absurd (show 0=j1 from e) (by omega)
  ·exact absurd (show 0=2 from e) (by omega)
  ·exact absurd (show 0=j4 from e) (by omega)
  ·exact absurd (show j1=0 from e) (by omega)
  ·rfl
  ·exact absurd (show j1=2 from e) (by omega)
  ·exact absurd (show j1=j4 from e) (by omega)
  ·exact absurd (show 2=0 from e) (by omega)
  ·exact absurd (show 2=j1 from e) (by omega)
  ·rfl
  ·exact absurd (show 2=j4 from e) (by omega)
  ·exact absurd (show j4=0 from e) (by omega)
  ·exact absurd (show j4=j1 from e) (by omega)
  ·exact absurd (show j4=2 from e) (by omega)
  ·rfl
theorem jW (A B:Ck5):pts (A++B)=pts A++pts B:=List.map_append
theorem N8 {C:Ck5} {i:Nat} (h:i<C.length) (M:Smp):pts C=pts (C.take i++(C[i].1,M)::C.drop (i+1)):=by
 have e:=fb h
 calc pts C=pts (C.take i++(C[i].1,C[i].2)::C.drop (i+1)):=by rw[e]
  _=_:=by rw[jW,jW];rfl
theorem FX {C:Ck5} {i:Nat} (h:i<C.length) (o:Nat×Nat) (M N:Smp):(pts C).take (i+1)++o::(pts C).drop (i+1)=pts (C.take i++(C[i].1,M)::(o,N)::C.drop (i+1)):=by
 have h1:(pts C).take (i+1)=pts (C.take (i+1)):=by simp[pts,List.map_take]
 have h2:(pts C).drop (i+1)=pts (C.drop (i+1)):=by simp[pts,List.map_drop]
 rw[h1,h2,List.take_add_one,List.getElem?_eq_getElem h,jW,jW];simp[pts]
def PtP (S0:Sr) (C0:Ck5) (t v q:Int):AV->Sr->Ps->Ck5->Prop:=fun u S V C=>∃e:Int,u= .si .i64 e/\S=S0/\V=pts C/\D6 S0 C0 C t v q e
noncomputable def TY:FuncId->EP:=aw 63 zn (aw 184 zo (aw 182 zp (aw 183 zj (aw 60 (p5 fun L=>L.length-1) (aw 185 oN evP)))))
theorem N9:aW TY:=ae (ae (ae (ae (ae (ae az B5) FP) RD) RK) B4) RH
noncomputable def KPt:FuncId->EP:=aV 130 [(1000004,[])] TY
theorem RM:aW KPt:=aq N9 (by kernel_rfl) (by kernel_rfl)
theorem Lx (S:Sr) (C:Ck5) (t v q:Int) (hg:Gd S C) (hf:(ab C).length<=80000) (ht:0<=t/\t<1099511627776) (hv:aN v):fG (ax KPt 5 130) [.ptr 0 0,.agg [.si .i64 t,.si .i64 v],.si .i64 q] (mkH (bH (iG S (pts C) C) 0)) 3 (SP (PtP S C t v q)):=by
 have hlo:=hg.lo;have hhi:=hg.hi;show ax KPt 5 _ _ _ _ _
 conv=>whnf
 refine xo.mk {C1:Ck5//C1≠[]/\ab C1=ab C/\Gd S C1} 5 (fun C1=>((B6 [(0,.ptr 0 0),(2,.si .i64 q),(4,.ptr 4 0)] S (pts C1.val) C1.val [.si .i64 t,.si .i64 v]).1,(B6 [(0,.ptr 0 0),(2,.si .i64 q),(4,.ptr 4 0)] S (pts C1.val) C1.val [.si .i64 t,.si .i64 v]).2.1)) ?_ ?_
 focus
  conv=>whnf
  refine ag.dec (fun h=>?_) (fun h=>?_)
  focus
   have hC:C=[]:=by
    have h:((pts C).length:Int)=0:=h;rw[ao]at h;exact List.eq_nil_of_length_eq_zero (by omega)
   subst hC
   conv=>whnf
   refine⟨2,S.sz,[],fun o=> [(o,[])],rfl,hlo,hhi,⟨by decide,by decide,rfl,rfl⟩,fun o=>⟨eT.refl _ _,?_⟩⟩
   conv=>whnf
   refine bC.grow 1 8 1 0 [aQ o] (aU []) _ true B3 (.old rfl) rfl rfl (.rw rfl rfl) (by omega) ?_
   conv=>whnf
   exact⟨⟨[(o,[])],by simp,rfl,⟨hlo,hhi,List.Pairwise.nil,fun c hc=>(by cases hc),fun c hc=>(by
    simp only[List.mem_cons,List.not_mem_nil,or_false]at hc;subst hc;exact cK.nil),fun c hc=>(by
    simp only[List.mem_cons,List.not_mem_nil,or_false]at hc;subst hc;exact Nat.zero_le _)⟩⟩,vJ 6 3 (le:=[(0,.ptr 0 0),(2,.si .i64 q),(4,.ptr 4 0)]) (Nat.le_refl 3) (fun x hx=>by
   simp only[List.mem_cons,List.not_mem_nil,or_false]at hx;rcases hx with rfl|rfl|rfl
   ·exact ah.ptr (Nat.le_of_ble_eq_true rfl) rfl
   ·exact ah.int rfl
   ·exact ah.ptr (Nat.le_of_ble_eq_true rfl) rfl) ⟨by decide,by decide,by decide⟩ ⟨by decide,by decide⟩ rfl rfl rfl rfl rfl rfl (ah.rw (Nat.le_of_ble_eq_true rfl) rfl) rfl rfl rfl rfl rfl rfl⟩
  have hC:C≠[]:=fun e=>h (by
   show((pts C).length:Int)=0;rw[e];rfl)
  conv=>whnf
  exact⟨⟨C,hC,rfl,hg⟩,vJ 1 3 (le:=[(0,.ptr 0 0),(2,.si .i64 q),(4,.ptr 4 0)]) (Nat.le_refl 3) (fun x hx=>by
   simp only[List.mem_cons,List.not_mem_nil,or_false]at hx;rcases hx with rfl|rfl|rfl
   ·exact ah.ptr (Nat.le_of_ble_eq_true rfl) rfl
   ·exact ah.int rfl
   ·exact ah.ptr (Nat.le_of_ble_eq_true rfl) rfl) ⟨by decide,by decide,by decide⟩ ⟨by decide,by decide⟩ rfl rfl rfl rfl rfl rfl (ah.rw (Nat.le_of_ble_eq_true rfl) rfl) rfl (aA _) rfl rfl rfl rfl⟩
 intro⟨Ca,ha1,ha2,ha3⟩
 conv=>whnf
 refine aS.mk {C1:Ck5//C1≠[]/\ab C1=ab C/\Gd S C1} 5 (fun C1=>((B6 [(0,.ptr 0 0),(2,.si .i64 q),(4,.ptr 4 0)] S (pts C1.val) C1.val [.si .i64 t,.si .i64 v]).1,(B6 [(0,.ptr 0 0),(2,.si .i64 q),(4,.ptr 4 0)] S (pts C1.val) C1.val [.si .i64 t,.si .i64 v]).2.1)) (fun C1=>(ab C).length+2-C1.val.length) ⟨Ca,ha1,ha2,ha3⟩ ?_ ?_
 focus
  exact vJ 3 4 (le:=[(0,.ptr 0 0),(2,.si .i64 q),(4,.ptr 4 0)]) (Nat.le_refl 3) (fun x hx=>by
   simp only[List.mem_cons,List.not_mem_nil,or_false]at hx;rcases hx with rfl|rfl|rfl
   ·exact ah.ptr (Nat.le_of_ble_eq_true rfl) rfl
   ·exact ah.int rfl
   ·exact ah.ptr (Nat.le_of_ble_eq_true rfl) rfl) ⟨by decide,by decide,by decide⟩ ⟨by decide,by decide⟩ rfl rfl rfl rfl rfl rfl (ah.rw (Nat.le_of_ble_eq_true rfl) rfl) rfl (aA _) rfl rfl rfl rfl
 clear ha1 ha2 ha3 Ca;intro⟨C1,hne,hfl,hg1⟩;have hlen:=D5 hg1.ne;rw[hfl]at hlen;have hO:=hg1.okc (by rw[hfl];omega);obtain⟨h,hh⟩:∃h,gF (cnt C1) t=h:=⟨_,rfl⟩
 have hlt:h<C1.length:=by
  have:=B0 (D:=cnt C1) t (fun e=>hne (List.map_eq_nil_iff.1 e));rw[dN]at this;omega
 obtain⟨hA,hB⟩:=vG (t:=t) hne hg1.ne hg1.up;rw[hh]at hA hB;have hgs:Gd S (C1.take h++(C1[h].1,C1[h].2)::C1.drop (h+1)):=by rw[fb hlt];exact hg1
 obtain⟨D2,hD2⟩:∃D2:Nat×Nat->Ck5,D2=fun o=>C1.take h++(C1[h].1,C1[h].2.take (bT C1[h].2))::(o,C1[h].2.drop (bT C1[h].2))::C1.drop (h+1):=⟨_,rfl⟩
 have gs:2<=C1[h].2.length->∀o,Gd S (D2 o)/\ab (D2 o)=ab C:=fun k o=>by
  have:=Lw (q:=o) hgs k;rw[fb hlt,hfl]at this;rw[hD2];exact this
 have gp:∀o,(pts C1).take (h+1)++o::(pts C1).drop (h+1)=pts (D2 o):=fun o=>by rw[hD2];exact FX hlt o _ _
 have gl:∀o,(D2 o).length=C1.length+1:=fun o=>by rw[hD2];simp only[List.length_append,List.length_cons,List.length_take,List.length_drop];omega
 have gn:∀o,D2 o≠[]:=fun o e=>by have:=gl o;rw[e]at this;simp at this
 have gc:∀o,eT S.sz (C1.take h++(C1[h].1,C1[h].2.take (bT C1[h].2))::(o,C1[h].2.drop (bT C1[h].2))::C1.drop (h+1)) (D2 o):=fun o=>by rw[hD2];exact eT.refl _ _
 have gb:h+1=C1.length->qT C1[h].2<t->eG S.sz [] t v q=([(t,v)],0)/\∀o,D6 S C (C1++ [(o,[(t,v)])]) t v q 0/\(pts C1).take (h+1)++o::(pts C1).drop (h+1)=pts (C1++ [(o,[(t,v)])]):=fun k1 k2=>by
  have hd:C1.drop (h+1)=[]:=List.drop_eq_nil_of_le (by omega)
  have hC1:C1.take h++ [(C1[h].1,C1[h].2)]=C1:=by
   have:=fb hlt;rw[hd]at this;exact this
  have hgs2:=hgs;rw[hd]at hgs2;refine⟨(vI (o:=(0,0)) (q:=q) hgs2 hA k2 ht hv).1,fun o=>⟨?_,?_⟩⟩
  ·have hb3:=(vI (o:=o) (q:=q) hgs2 hA k2 ht hv).2;rw[hC1]at hb3;exact⟨hb3.gd,hfl▸hb3.err,hfl▸hb3.fl,hb3.ne⟩
  ·rw[List.take_of_length_le (by rw[ao];omega),List.drop_eq_nil_of_le (by rw[ao];omega),jW];rfl
 have gf:(eG S.sz C1[h].2 t v q).2=2->(eG S.sz C1[h].2 t v q).1=C1[h].2/\2<=C1[h].2.length:=fun k=>Lv hlo ht k
 have gh:(eG S.sz C1[h].2 t v q).2≠2->D6 S C (C1.take h++(C1[h].1,(eG S.sz C1[h].2 t v q).1)::C1.drop (h+1)) t v q (eG S.sz C1[h].2 t v q).2:=fun k=>by
  have hp:=Lu (q:=q) hgs hA hB ht hv k;rw[fb hlt]at hp;exact⟨hp.gd,hfl▸hp.err,hfl▸hp.fl,hp.ne⟩
 obtain⟨r,hr⟩:∃r,eG S.sz C1[h].2 t v q=r:=⟨_,rfl⟩;rw[hr]at gf gh;have gq:r.2=2->eT S.sz (C1.take h++(C1[h].1,r.1)::C1.drop (h+1)) C1:=fun k=>by rw[(gf k).1];exact mV hlt
 have hw:IntKind.i64.wrap ((h:Int)+1)=((h+1:Nat):Int):=by rw[al (by omega) (by omega)];omega
 have hw2:IntKind.i64.wrap (((pts C1).length:Int)-1)=((C1.length-1:Nat):Int):=by rw[ao,al (by omega) (by omega)];omega
 conv=>whnf
 refine⟨0,3,2,S,C1,t,h,rfl,rfl,⟨⟨by decide,by decide,by decide⟩,⟨by decide,by decide,by decide⟩,rfl,rfl,rfl⟩,hO,hh,?_⟩
 conv=>whnf
 refine Idx.mk h rfl (by rw[ao];exact hlt) ?_
 conv=>whnf
 refine ay (dH hlt (show 0+h*1=h by omega)) ?_
 conv=>whnf
 by_cases hfull:r.2=2
 focus
  have hL2:=(gf hfull).2;refine⟨2,S.sz,C1.take h,C1.drop (h+1),C1,C1[h].1,C1[h].2,t,v,q,r,rfl,⟨_,_,rfl,rfl,rfl⟩,rfl,ll hlt rfl (by decide) (by decide) rfl,by omega,hhi,hO.dW _ (List.getElem_mem hlt),hv,hr,gq hfull,?_⟩
  conv=>whnf
  refine ag.dh (fun z=>absurd hfull z) (fun _=>?_)
  conv=>whnf
  refine⟨2,S.sz,C1.take h,C1.drop (h+1),C1,C1[h].1,C1[h].2,rfl,ll hlt rfl (by decide) (by decide) rfl,by omega,hO.dW _ (List.getElem_mem hlt),mV hlt,?_⟩
  conv=>whnf
  by_cases hlast:h+1=C1.length
  focus
   refine ag.dec (fun _=>?_) (fun z=>absurd (show(h:Int)=IntKind.i64.wrap (((pts C1).length:Int)-1) by rw[hw2];omega) z)
   conv=>whnf
   refine ag.dec (fun hlt2=>?_) (fun _=>?_)
   focus
    have gb1:=(gb hlast hlt2).1;have gb2:=(gb hlast hlt2).2
    conv=>whnf
    refine⟨2,S.sz,C1,fun o=>C1++ [(o,[])],rfl,hlo,hhi,⟨by decide,by decide,rfl,rfl⟩,fun o=>⟨eT.refl _ _,?_⟩⟩
    conv=>whnf
    refine⟨0,5,2,h+1,S,pts C1,pts (C1++ [(o,[(t,v)])]),C1++ [(o,[])],o,rfl,congrArg (AV.si .i64) hw,rfl,⟨⟨by decide,by decide,by decide⟩,⟨by decide,by decide,by decide⟩,rfl,rfl,rfl⟩,by rw[ao];omega,by rw[ao];omega,(gb2 o).2,?_⟩
    conv=>whnf
    refine⟨2,S.sz,C1,[],C1++ [(o,[(t,v)])],o,[],t,v,q,([(t,v)],0),rfl,⟨_,_,rfl,rfl,rfl⟩,rfl,⟨by decide,by decide,rfl,rfl⟩,by omega,hhi,cK.nil,hv,gb1,eT.refl _ _,?_⟩
    conv=>whnf
    exact fu (PtP S C t v q) ⟨0,rfl,rfl,rfl,(gb2 o).1⟩ (VTo.mk5 rfl) VR.eJ 10 ⟨by decide,by decide⟩ rfl rfl rfl rfl rfl rfl (ah.rw (Nat.le_of_ble_eq_true rfl) rfl) rfl (aA _) rfl
   conv=>whnf
   refine⟨2,S.sz,C1.take h,C1.drop (h+1),C1[h].1,C1[h].2,D2,rfl,ll hlt rfl (by decide) (by decide) rfl,rfl,by decide,by omega,hO.dW _ (List.getElem_mem hlt),hL2,fun o=>⟨gc o,?_⟩⟩
   conv=>whnf
   refine⟨0,5,2,h+1,S,pts C1,pts (D2 o),D2 o,o,rfl,congrArg (AV.si .i64) hw,rfl,⟨⟨by decide,by decide,by decide⟩,⟨by decide,by decide,by decide⟩,rfl,rfl,rfl⟩,by rw[ao];omega,by rw[ao];omega,gp o,?_⟩
   conv=>whnf
   exact⟨⟨D2 o,gn o,(gs hL2 o).2,(gs hL2 o).1⟩,by show(ab C).length+2-(D2 o).length<(ab C).length+2-C1.length;rw[gl o];omega,vJ 11 4 (le:=[(0,.ptr 0 0),(2,.si .i64 q),(4,.ptr 4 0)]) (Nat.le_refl 3) (fun x hx=>by
    simp only[List.mem_cons,List.not_mem_nil,or_false]at hx;rcases hx with rfl|rfl|rfl
    ·exact ah.ptr (Nat.le_of_ble_eq_true rfl) rfl
    ·exact ah.int rfl
    ·exact ah.ptr (Nat.le_of_ble_eq_true rfl) rfl) ⟨by decide,by decide,by decide⟩ ⟨by decide,by decide⟩ rfl rfl rfl rfl rfl rfl (ah.rw (Nat.le_of_ble_eq_true rfl) rfl) rfl (aA _) rfl rfl rfl rfl⟩
  refine ag.dec (fun z=>absurd z (show¬(h:Int)=IntKind.i64.wrap (((pts C1).length:Int)-1) by rw[hw2];omega)) (fun _=>?_)
  conv=>whnf
  refine⟨2,S.sz,C1.take h,C1.drop (h+1),C1[h].1,C1[h].2,D2,rfl,ll hlt rfl (by decide) (by decide) rfl,rfl,by decide,by omega,hO.dW _ (List.getElem_mem hlt),hL2,fun o=>⟨gc o,?_⟩⟩
  conv=>whnf
  refine⟨0,5,2,h+1,S,pts C1,pts (D2 o),D2 o,o,rfl,congrArg (AV.si .i64) hw,rfl,⟨⟨by decide,by decide,by decide⟩,⟨by decide,by decide,by decide⟩,rfl,rfl,rfl⟩,by rw[ao];omega,by rw[ao];omega,gp o,?_⟩
  conv=>whnf
  exact⟨⟨D2 o,gn o,(gs hL2 o).2,(gs hL2 o).1⟩,by show(ab C).length+2-(D2 o).length<(ab C).length+2-C1.length;rw[gl o];omega,vJ 11 4 (le:=[(0,.ptr 0 0),(2,.si .i64 q),(4,.ptr 4 0)]) (Nat.le_refl 3) (fun x hx=>by
   simp only[List.mem_cons,List.not_mem_nil,or_false]at hx;rcases hx with rfl|rfl|rfl
   ·exact ah.ptr (Nat.le_of_ble_eq_true rfl) rfl
   ·exact ah.int rfl
   ·exact ah.ptr (Nat.le_of_ble_eq_true rfl) rfl) ⟨by decide,by decide,by decide⟩ ⟨by decide,by decide⟩ rfl rfl rfl rfl rfl rfl (ah.rw (Nat.le_of_ble_eq_true rfl) rfl) rfl (aA _) rfl rfl rfl rfl⟩
 refine⟨2,S.sz,C1.take h,C1.drop (h+1),C1.take h++(C1[h].1,r.1)::C1.drop (h+1),C1[h].1,C1[h].2,t,v,q,r,rfl,⟨_,_,rfl,rfl,rfl⟩,rfl,ll hlt rfl (by decide) (by decide) rfl,by omega,hhi,hO.dW _ (List.getElem_mem hlt),hv,hr,eT.refl _ _,?_⟩
 conv=>whnf
 refine ag.dh (fun _=>?_) (fun z=>absurd z hfull)
 conv=>whnf
 exact fu (PtP S C t v q) ⟨_,rfl,rfl,N8 hlt _,gh hfull⟩ (VTo.mk5 rfl) VR.eJ 5 ⟨by decide,by decide⟩ rfl rfl rfl rfl rfl rfl (ah.rw (Nat.le_of_ble_eq_true rfl) rfl) rfl (aA _) rfl
structure Pre5 (S:Sr) (C:Ck5):Prop where
 lo:128<=S.sz
 hi:S.sz<=4096
 up:Up (ab C)
 dW:∀c∈C,cK c.2
 fit:∀c∈C,(aT c.2).length<=8*S.sz
theorem Gd.pre {S:Sr} {C:Ck5} (h:Gd S C):Pre5 S C:=⟨h.lo,h.hi,h.up,h.dW,h.fit⟩
theorem Pre5.okc {S:Sr} {C:Ck5} (h:Pre5 S C) (hf:C.length<=100000):Okc S C:=⟨h.lo,h.hi,h.dW,hf⟩
structure Gt (S:Sr) (C:Ck5):Prop extends Pre5 S C where
 all:∀c∈C,c.2≠[]
theorem Gt.gd {S:Sr} {C:Ck5} (h:Gt S C):Gd S C:=⟨h.lo,h.hi,h.up,fun c hc=>h.all c (List.mem_of_mem_tail hc),h.dW,h.fit⟩
theorem Gt.few {S:Sr} {C:Ck5} (h:Gt S C):C.length<=(ab C).length:=vF h.all
def usd (L:Smp):Nat:=(pack (aT L)).length
def Sm5 (sz:Nat) (L:Smp):Prop:=IntKind.i64.wrap (4*(usd L:Int))<(sz:Int)
theorem qZ (L:Smp):usd L=((aT L).length+7)/8:=bh _
theorem Sm5.nat {sz:Nat} {L:Smp} (hF:cK L) (h:Sm5 sz L):4*usd L<sz:=by
 unfold Sm5 at h;have h1:=oK L L.length;have h2:=hF.2.2;have h3:(aT L).length<=136*L.length:=h1;have h4:=qZ L;rw[al (by omega) (by omega)]at h;omega
def Wh (sz n:Nat) (C:Ck5):Prop:=∀j,(h:j+1<C.length)->j+1<n->¬(Sm5 sz C[j].2/\Sm5 sz C[j+1].2)
theorem Oa {A:Ck5} {p q:Nat×Nat} {L M:Smp} {B:Ck5} (hu:Up (ab (A++(p,L)::(q,M)::B))):pt L M=false:=by
 rw[fk,bI,Up.app]at hu;have h2:=hu.2.1;rw[Up.app]at h2;obtain⟨h3,h4,h5⟩:=h2;unfold pt;by_cases hL:L=[]
 ·simp[hL]
 by_cases hM:M=[]
 ·simp[hM]
 ·obtain⟨y,hy,hy2⟩:=FU hM;have hx:(L[L.length-1]'(by have:=List.length_pos_iff.2 hL;omega))∈L:=List.getElem_mem _;have:=h5 _ hx y (List.mem_append_left _ hy);have e:qT L=(L[L.length-1]'(by have:=List.length_pos_iff.2 hL;omega)).1:=eR _;simp[hL,hM];omega
theorem Ob {S:Sr} {A B:Ck5} {p q:Nat×Nat} {L M:Smp} (hg:Gt S (A++(p,L)::(q,M)::B)) (h1:Sm5 S.sz L) (h2:Sm5 S.sz M):
 bK S.sz L M=((L++M,[]),0)/\Gt S (A++(p,L++M)::B)/\ab (A++(p,L++M)::B)=ab (A++(p,L)::(q,M)::B):=by
 have fL:cK L:=hg.dW (p,L) (by simp);have fM:cK M:=hg.dW (q,M) (by simp);have n1:=h1.nat fL;have n2:=h2.nat fM;have u1:=qZ L;have u2:=qZ M;have hj:=(BT L M).1;have hlo:=hg.lo;have hb:(aT (L++M)).length<=8*S.sz:=by omega
 have hmt:=Oa hg.up
 have e:bK S.sz L M=((L++M,[]),0):=by
  unfold bK;rw[hmt];simp[hb]
 have hf:=(HZ hg.hi fL fM (size:=S.sz)).1;rw[e]at hf;have ef:ab (A++(p,L++M)::B)=ab (A++(p,L)::(q,M)::B):=by rw[fk,fk,bI,List.append_assoc]
 have mm:∀c,c∈A++B->c∈A++(p,L)::(q,M)::B:=fun c hc=>db.2 (.inr (db.2 (.inr hc)))
 refine⟨e,⟨⟨hg.lo,hg.hi,by rw[ef];exact hg.up,fun c hc=>?_,fun c hc=>?_⟩,fun c hc=>?_⟩,ef⟩
 ·rcases db.1 hc with rfl|k
  ·exact hf
  ·exact hg.dW c (mm c k)
 ·rcases db.1 hc with rfl|k
  ·exact hb
  ·exact hg.fit c (mm c k)
 ·rcases db.1 hc with rfl|k
  ·have:=hg.all (p,L) (by simp);exact fun e=>this (List.append_eq_nil_iff.1 e).1
  ·exact hg.all c (mm c k)
def neC (C:Ck5):Ck5:=C.filter fun c=>!c.2.isEmpty
theorem vK:∀C:Ck5,ab (neC C)=ab C
 | []=>rfl
 |c::C=>by
  have ih:=vK C;unfold neC at*;rw[List.filter_cons];split
  ·rw[bI,bI,ih]
  ·rename_i h;have:c.2=[]:=by simpa using h
   rw[bI,this,ih];rfl
theorem RN {S:Sr} {C:Ck5} (h:Pre5 S C):Gt S (neC C):=by
 have sub:∀c,c∈neC C->c∈C/\c.2≠[]:=fun c hc=>by
  obtain⟨h1,h2⟩:=List.mem_filter.1 hc;exact⟨h1,by simpa using h2⟩
 exact⟨⟨h.lo,h.hi,by rw[vK];exact h.up,fun c hc=>h.dW c (sub c hc).1,fun c hc=>h.fit c (sub c hc).1⟩,fun c hc=>(sub c hc).2⟩
theorem B7 {C:Ck5} {i:Nat} (h:i<C.length):neC (C.take (i+1))=neC (C.take i)++(if C[i].2=[]then []else [C[i]]):=by
 unfold neC;rw[List.take_add_one,List.getElem?_eq_getElem h,Option.toList_some,List.filter_append];congr 1;by_cases q:C[i].2=[]
 ·simp[q]
 ·simp[q]
theorem FY (C:Ck5):(neC C).length<=C.length:=List.length_filter_le _ _
theorem Oc {sz n:Nat} {C:Ck5} {c:(Nat×Nat)×Smp} {B:Ck5} (h:Wh sz n C) (hn:n<C.length):Wh sz (max 1 (n-1)) (C.take (n-1)++c::B):=fun j hj hjn=>by
 have h1:j+1<n-1:=by omega
 have e1:(C.take (n-1)++c::B)[j]'(by omega)=C[j]'(by omega):=by
  rw[List.getElem_append_left (by rw[List.length_take];omega),List.getElem_take]
 have e2:(C.take (n-1)++c::B)[j+1]'hj=C[j+1]'(by omega):=by
  rw[List.getElem_append_left (by rw[List.length_take];omega),List.getElem_take]
 rw[e1,e2];exact h j (by omega) (by omega)
theorem Od {sz n:Nat} {C:Ck5} (h:Wh sz n C) (hn1:1<=n) (hn:n<C.length) (hs:¬(Sm5 sz (C[n-1]'(by omega)).2/\Sm5 sz C[n].2)):Wh sz (n+1) C:=fun j hj hjn=>by
 by_cases q:j+1=n
 ·subst q;exact hs
 ·exact h j hj (by omega)
theorem Io {C:Ck5} {n:Nat} (h1:1<=n) (hn:n<C.length):C.take (n-1)++((C[n-1]'(by omega)).1,(C[n-1]'(by omega)).2)::(C[n].1,C[n].2)::C.drop (n+1)=C:=by
 have e1:=fb (C:=C) (i:=n-1) (by omega)
 have e2:C.drop (n-1+1)=C[n]::C.drop (n+1):=by
  rw[show n-1+1=n by omega];exact List.drop_eq_getElem_cons hn
 rw[e2]at e1;exact e1
noncomputable def Ly (le:List (Nat×AV)) (S:Sr) (V:Ps) (C:Ck5) (W:Ps):AE×AH×Nat:=(mkE le,mkH [(0,.cells (cR S 3 V.length) true),(3,.cells (aU V) true),(2,di S C),(4,.cells (aU W) true)],5)
theorem D7 {p:Nat} {σ:AE} {H:AH} {n:Nat} {S:Sr} {V W:Ps} {C:Ck5} (j1 j4:Nat) {le:List (Nat×AV)} {a0 a1 a2 a3 a4 a5:AV} {l:List AV} (hp:p<=3) (he:∀x∈le,ah H 5 (tp j1 j4) (ak (pa x.1) σ) x.2) (hj:j1≠0/\j1≠2/\j1≠j4) (hj4:j4≠0/\j4≠2)
 (hc:PM.get H 0=some (.cells [a0,a1,a2,a3,a4,a5] true)) (h0:mk a0= .si .i64 (S.sz:Int)) (h1:mk a1= .si .i64 S.ret) (h2:mk a2= .si .i64 S.pol) (h3:mk a3= .si .i64 S.mx) (h4:mk a4= .si .i64 S.fl) (h5:ah H 5 (tp j1 j4) a5 (.rw 3 0 V.length 1 0))
 (hl:PM.get H j1=some (.cells l true)) (hl2:l.map mk=aU V) (hq:PM.get H 2=some (di S C)) (hb:(∃l4,PM.get H j4=some (.cells l4 true)/\l4.map mk=aU W)∨(W=[]/\n<=j4)):Cov p σ H n (Ly le S V C W):=by
 refine Cov.ofR (m:=5) (p:=p) (tp j1 j4) (by omega) (fun b hb=>by unfold tp;rw[if_neg (by omega),if_neg (by omega)]) he ?_ ?_
 ·intro x hx;simp only[List.mem_cons,List.not_mem_nil,or_false]at hx;rcases hx with rfl|rfl|rfl|rfl
  ·exact⟨Nat.le_of_ble_eq_true rfl,.inl ⟨_,hc,au.cR h0 h1 h2 h3 h4 h5⟩⟩
  ·exact⟨Nat.le_of_ble_eq_true rfl,.inl ⟨_,hl,au.aU hl2⟩⟩
  ·exact⟨Nat.le_of_ble_eq_true rfl,.inl ⟨_,hq,au.sep _⟩⟩
  ·refine⟨Nat.le_of_ble_eq_true rfl,?_⟩;rcases hb with⟨l4,g1,g2⟩|⟨g1,g2⟩
   ·exact .inl ⟨_,g1,au.aU g2⟩
   ·exact .inr ⟨by rw[g1];rfl,g2⟩
 ·intro x hx y hy e;simp only[List.mem_cons,List.not_mem_nil,or_false]at hx hy;rcases hx with rfl|rfl|rfl|rfl<;>rcases hy with rfl|rfl|rfl|rfl
  ·rfl
  ·exact absurd (show 0=j1 from e) (by omega)
  ·exact absurd (show 0=2 from e) (by omega)
  ·exact absurd (show 0=j4 from e) (by omega)
  ·exact absurd (show j1=0 from e) (by omega)
  ·rfl
  ·exact absurd (show j1=2 from e) (by omega)
  ·exact absurd (show j1=j4 from e) (by omega)
  ·exact absurd (show 2=0 from e) (by omega)
  ·exact absurd (show 2=j1 from e) (by omega)
  ·rfl
  ·exact absurd (show 2=j4 from e) (by omega)
  ·exact absurd (show j4=0 from e) (by omega)
  ·exact absurd (show j4=j1 from e) (by omega)
  ·exact absurd (show j4=2 from e) (by omega)
  ·rfl
theorem au.TZ {H:AH} {m:Nat} {r:Nat->Nat} {V X:Ps}:au H m r (.cells (Go.Proofs.YtflehenfikoniaaGreat.aU (V++X)) true) (.cells (Go.Proofs.YtflehenfikoniaaGreat.aU V) true):=
 au.cells (by rw[bS,bS,List.length_append];omega) (fun q=>q) fun i a' hi=>by
  refine⟨a',?_,?_⟩
  ·rw[qY,List.getElem?_append_left (List.getElem?_eq_some_iff.1 hi).1];exact hi
  ·unfold Go.Proofs.YtflehenfikoniaaGreat.aU at hi;rw[List.getElem?_map]at hi;cases hc:V[i]? with
   |none=>rw[hc]at hi;cases hi
   |some c=>
    rw[hc]at hi;injection hi with hi;subst hi;exact fun _ _ _ _ _ h=>h
theorem RO {p:Nat} {σ:AE} {H:AH} {n:Nat} {S:Sr} {V X:Ps} {C:Ck5} (j1:Nat) {le:List (Nat×AV)} {a0 a1 a2 a3 a4 a5:AV} (hp:p<=3) (he:∀x∈le,ah H 4 (zm j1) (ak (pa x.1) σ) x.2) (hj:j1≠0/\j1≠2)
 (hc:PM.get H 0=some (.cells [a0,a1,a2,a3,a4,a5] true)) (h0:mk a0= .si .i64 (S.sz:Int)) (h1:mk a1= .si .i64 S.ret) (h2:mk a2= .si .i64 S.pol) (h3:mk a3= .si .i64 S.mx) (h4:mk a4= .si .i64 S.fl) (h5:ah H 4 (zm j1) a5 (.rw 3 0 V.length 1 0))
 (hl:PM.get H j1=some (.cells (aU (V++X)) true)) (hq:PM.get H 2=some (di S C)):Cov p σ H n (vC le S V C):=by
 refine Cov.ofR (m:=4) (p:=p) (zm j1) (by omega) (fun b hb=>by unfold zm;rw[if_neg (by omega)]) he ?_ ?_
 ·intro x hx;simp only[List.mem_cons,List.not_mem_nil,or_false]at hx;rcases hx with rfl|rfl|rfl
  ·exact⟨Nat.le_of_ble_eq_true rfl,.inl ⟨_,hc,au.cR h0 h1 h2 h3 h4 h5⟩⟩
  ·exact⟨Nat.le_of_ble_eq_true rfl,.inl ⟨_,hl,au.TZ⟩⟩
  ·exact⟨Nat.le_of_ble_eq_true rfl,.inl ⟨_,hq,au.sep _⟩⟩
 ·intro x hx y hy e;simp only[List.mem_cons,List.not_mem_nil,or_false]at hx hy;rcases hx with rfl|rfl|rfl<;>rcases hy with rfl|rfl|rfl
  ·rfl
  ·exact absurd (show 0=j1 from e) (by omega)
  ·exact absurd (show 0=2 from e) (by omega)
  ·exact absurd (show j1=0 from e) (by omega)
  ·rfl
  ·exact absurd (show j1=2 from e) (by omega)
  ·exact absurd (show 2=0 from e) (by omega)
  ·exact absurd (show 2=j1 from e) (by omega)
  ·rfl
theorem vL {H:AH} {S:Sr} {C:Ck5} {i:Nat} (h:i<C.length) (hq:PM.get H 2=some (di S C)):H.get 2=some (.sep (pk (chs S.sz (C.take i++(C[i].1,C[i].2)::C.drop (i+1))))):=by rw[fb h];exact hq
def TdP (S0:Sr) (C0:Ck5):AV->Sr->Ps->Ck5->Prop:=fun u S V C=>u= .tup []/\S=S0/\V=pts C/\ab C=ab C0/\Gt S0 C/\Wh S0.sz C.length C
def Oe:DT:=[(1,[(some 0,[0]),(some 0,[5]),(some 0,[6]),(some 0,[7]),(some 0,[1]),(some 0,[8,9]),(some 0,[10]),(none,[11]),(some 0,[12]),(some 2,[0]),(some 3,[14]),(some 4,[15]),(some 5,[16]),(some 0,[13,17]),(some 0,[18])])]
def RP:DT:=[(12,[(some 0,[0]),(some 0,[47]),(some 0,[48]),(some 0,[49]),(some 0,[5]),(some 0,[51]),(some 0,[50,52]),(some 0,[53]),(some 0,[0]),(some 0,[55]),(some 0,[56]),(some 0,[57]),(some 0,[5]),(some 0,[58,59]),(some 0,[60])]),
 (13,[(some 1000000,[]),(none,[0,1,2,3,4,5,6,7,8,9,10,11,12,13,14,15,16,17,18])])]
noncomputable def T0:FuncId->EP:=aw 188 vD (cT 202 (p6 Lh) (aw 186 (zk Ry) evP))
theorem Of:aW T0:=ae (a8 (ae az RE) FT (FQ _)) N2
noncomputable def KTd:FuncId->EP:=aV 132 RP (aV 187 Oe T0)
theorem RQ:aW KTd:=aq (aq Of (by kernel_rfl) (by kernel_rfl)) (by kernel_rfl) (by kernel_rfl)
theorem Lz {C:Ck5} {n:Nat} (h1:1<=n) (hn:n<C.length) (M:Smp):(pts C).take n++(pts C).drop (n+1)=pts (C.take (n-1)++((C[n-1]'(by omega)).1,M)::C.drop (n+1)):=by
 have h2:(pts C).take n=pts (C.take n):=by simp[pts,List.map_take]
 have h3:(pts C).drop (n+1)=pts (C.drop (n+1)):=by simp[pts,List.map_drop]
 have h4:C.take n=C.take (n-1)++ [C[n-1]'(by omega)]:=by
  have:=List.take_add_one (l:=C) (i:=n-1);rw[show n-1+1=n by omega,List.getElem?_eq_getElem (show n-1<C.length by omega)]at this;exact this
 rw[h2,h3,h4,jW,jW];simp[pts]
theorem LA (S:Sr) (C:Ck5) (hp:Pre5 S C) (hf:C.length<=100000):fG (ax KTd 5 132) [.ptr 0 0] (mkH (bH (iG S (pts C) C) 0)) 3 (SP (TdP S C)):=by
 have hlo:=hp.lo;have hhi:=hp.hi;show ax KTd 5 _ _ _ _ _
 conv=>whnf
 refine aS.mk {i:Nat//i<=C.length} 5 (fun i=>((Ly [(0,.ptr 0 0),(2,.rw 4 0 (pts (neC (C.take i.val))).length 1 0),(9,.rw 3 0 (pts C).length 1 0),(10,.si .i64 ((pts C).length:Int)),(11,.si .i64 ((i.val:Int)))] S (pts C) (neC (C.take i.val)++C.drop i.val) (pts (neC (C.take i.val)))).1,(Ly [(0,.ptr 0 0),(2,.rw 4 0 (pts (neC (C.take i.val))).length 1 0),(9,.rw 3 0 (pts C).length 1 0),(10,.si .i64 ((pts C).length:Int)),(11,.si .i64 ((i.val:Int)))] S (pts C) (neC (C.take i.val)++C.drop i.val) (pts (neC (C.take i.val)))).2.1)) (fun i=>C.length-i.val) ⟨0,Nat.zero_le _⟩ ?_ ?_
 focus
  exact D7 1 3 (le:=[(0,.ptr 0 0),(2,.rw 4 0 (pts (neC (C.take 0))).length 1 0),(9,.rw 3 0 (pts C).length 1 0),(10,.si .i64 ((pts C).length:Int)),(11,.si .i64 (((0:Nat):Int)))]) (Nat.le_refl 3) (fun x hx=>by
   simp only[List.mem_cons,List.not_mem_nil,or_false]at hx;rcases hx with rfl|rfl|rfl|rfl|rfl
   ·exact ah.ptr (Nat.le_of_ble_eq_true rfl) rfl
   ·exact ah.iD rfl
   ·exact ah.rw (Nat.le_of_ble_eq_true rfl) rfl
   ·exact ah.int rfl
   ·exact ah.int rfl) ⟨by decide,by decide,by decide⟩ ⟨by decide,by decide⟩ rfl rfl rfl rfl rfl rfl (ah.rw (Nat.le_of_ble_eq_true rfl) rfl) rfl (aA _) rfl (.inr ⟨rfl,Nat.le_refl _⟩)
 focus
  intro⟨i,hi⟩;have hw:IntKind.i64.wrap ((i:Int)+1)=((i+1:Nat):Int):=by rw[al (by omega) (by omega)];omega
  have hnl:=FY (C.take i);rw[List.length_take,Nat.min_eq_left hi]at hnl;have st:∀h:i<C.length,C.drop i=(C[i].1,C[i].2)::C.drop (i+1):=fun h=>List.drop_eq_getElem_cons h
  have s0:∀h:i<C.length,C[i].2=[]->neC (C.take (i+1))=neC (C.take i):=fun h q=>by rw[B7 h,if_pos q,List.append_nil]
  have s1:∀h:i<C.length,¬C[i].2=[]->neC (C.take (i+1))=neC (C.take i)++ [C[i]]:=fun h q=>by rw[B7 h,if_neg q]
  conv=>whnf
  refine ag.dec (fun h=>?_) (fun h=>?_)
  focus
   have h2:i<C.length:=by
    have h:(i:Int)<((pts C).length:Int):=h;rw[ao]at h;omega
   have st2:=st h2;have s02:=s0 h2;have s12:=s1 h2;have hsep:some (di S (neC (C.take i)++C.drop i))=some (AO.sep (pk (chs S.sz (neC (C.take i)++(C[i].1,C[i].2)::C.drop (i+1))))):=by rw[st2];rfl
   conv=>whnf
   refine Idx.mk i rfl (by rw[ao];exact h2) ?_
   conv=>whnf
   refine ay (dH h2 (show 0+i*1=i by omega)) ?_
   conv=>whnf
   by_cases hz:C[i].2=[]
   focus
    have e1:=s02 hz;refine⟨2,S.sz,neC (C.take i),C.drop (i+1),neC (C.take (i+1))++C.drop (i+1),C[i].1,C[i].2,rfl,⟨by decide,by decide,rfl,hsep⟩,by rw[e1];exact eT.sub ((List.sublist_cons_self _ _).append_left _),?_⟩
    conv=>whnf
    refine ag.dec (fun z=>absurd z (by rw[hz];decide)) (fun _=>?_)
    conv=>whnf
    exact⟨⟨i+1,h2⟩,by show C.length-(i+1)<C.length-i;omega,D7 3 4 (le:=[(0,.ptr 0 0),(2,.rw 4 0 (pts (neC (C.take (i+1)))).length 1 0),(9,.rw 3 0 (pts C).length 1 0),(10,.si .i64 ((pts C).length:Int)),(11,.si .i64 (((i+1:Nat):Int)))]) (Nat.le_refl 3) (fun x hx=>by
   simp only[List.mem_cons,List.not_mem_nil,or_false]at hx;rcases hx with rfl|rfl|rfl|rfl|rfl
   ·exact ah.ptr (Nat.le_of_ble_eq_true rfl) rfl
   ·exact(by rw[e1];exact ah.rw (Nat.le_of_ble_eq_true rfl) rfl)
   ·exact ah.rw (Nat.le_of_ble_eq_true rfl) rfl
   ·exact ah.int rfl
   ·exact ah.int (congrArg (AV.si .i64) hw)) ⟨by decide,by decide,by decide⟩ ⟨by decide,by decide⟩ rfl rfl rfl rfl rfl rfl (ah.rw (Nat.le_of_ble_eq_true rfl) rfl) rfl (aA _) rfl (.inl ⟨_,rfl,by rw[e1];exact aA _⟩)⟩
   have e1:=s12 hz;have hpl:0<(C[i].2.length:Int):=by have:=List.length_pos_iff.2 hz;omega
   have hcm:eT S.sz (neC (C.take i)++(C[i].1,C[i].2)::C.drop (i+1)) (neC (C.take (i+1))++C.drop (i+1)):=by rw[e1,List.append_assoc];exact eT.refl _ _
   have hln:(pts (neC (C.take i))).length+1=(pts (neC (C.take (i+1)))).length:=by rw[e1,ao,ao,List.length_append];rfl
   have hpt:(aU (pts (neC (C.take i)))++ [aQ C[i].1]).map mk=aU (pts (neC (C.take (i+1)))):=by rw[e1,jW,qY,List.map_append,aA];rfl
   refine⟨2,S.sz,neC (C.take i),C.drop (i+1),neC (C.take (i+1))++C.drop (i+1),C[i].1,C[i].2,rfl,⟨by decide,by decide,rfl,hsep⟩,hcm,?_⟩
   conv=>whnf
   refine ag.dec (fun _=>?_) (fun z=>absurd hpl z)
   conv=>whnf
   refine bC.grow 1 8 1 (pts (neC (C.take i))).length [aQ C[i].1] (aU (pts (neC (C.take i)))) _ true B3 (.old rfl) rfl rfl (.rw rfl (bq (by rw[bS,Nat.mul_one]))) (by rw[ao];omega) ?_
   conv=>whnf
   exact⟨⟨i+1,h2⟩,by show C.length-(i+1)<C.length-i;omega,D7 3 7 (le:=[(0,.ptr 0 0),(2,.rw 4 0 (pts (neC (C.take (i+1)))).length 1 0),(9,.rw 3 0 (pts C).length 1 0),(10,.si .i64 ((pts C).length:Int)),(11,.si .i64 (((i+1:Nat):Int)))]) (Nat.le_refl 3) (fun x hx=>by
   simp only[List.mem_cons,List.not_mem_nil,or_false]at hx;rcases hx with rfl|rfl|rfl|rfl|rfl
   ·exact ah.ptr (Nat.le_of_ble_eq_true rfl) rfl
   ·exact ah.rw (Nat.le_of_ble_eq_true rfl) (congrArg (fun q=>AV.rw 7 0 q 1 0) hln)
   ·exact ah.rw (Nat.le_of_ble_eq_true rfl) rfl
   ·exact ah.int rfl
   ·exact ah.int (congrArg (AV.si .i64) hw)) ⟨by decide,by decide,by decide⟩ ⟨by decide,by decide⟩ rfl rfl rfl rfl rfl rfl (ah.rw (Nat.le_of_ble_eq_true rfl) rfl) rfl (aA _) rfl (.inl ⟨_,rfl,hpt⟩)⟩
  have hin:i=C.length:=by
   have:¬i<C.length:=fun q=>h (by
    show(i:Int)<((pts C).length:Int);rw[ao];omega)
   omega
  have hg0:=RN hp;have eC:neC (C.take i)=neC C:=by rw[hin,List.take_length]
  have eD:neC (C.take i)++C.drop i=neC C:=by rw[eC,hin,List.drop_length,List.append_nil]
  have hl0:=FY C;clear st s0 s1
  conv=>whnf
  refine aS.mk {x:Nat×Ck5//1<=x.1/\ab x.2=ab C/\Gt S x.2/\x.2.length<=100000/\Wh S.sz x.1 x.2/\x.1<=100000} 4 (fun x=>((vC [(0,.ptr 0 0),(5,.si .i64 ((x.val.1:Int)))] S (pts x.val.2) x.val.2).1,(vC [(0,.ptr 0 0),(5,.si .i64 ((x.val.1:Int)))] S (pts x.val.2) x.val.2).2.1)) (fun x=>2*x.val.2.length-x.val.1) ⟨(1,neC C),Nat.le_refl _,vK C,hg0,by show(neC C).length<=100000;omega,fun j hj hjn=>absurd hjn (by omega),(show(1:Nat)<=100000 by decide)⟩ ?_ ?_
  focus
   exact nh 4 (le:=[(0,.ptr 0 0),(5,.si .i64 (((1:Nat):Int)))]) (Nat.le_refl 3) (fun x hx=>by
   simp only[List.mem_cons,List.not_mem_nil,or_false]at hx;rcases hx with rfl|rfl
   ·exact ah.ptr (Nat.le_of_ble_eq_true rfl) rfl
   ·exact ah.int rfl) ⟨by decide,by decide⟩ rfl rfl rfl rfl rfl rfl (ah.rw (Nat.le_of_ble_eq_true rfl) (congrArg (fun q=>AV.rw 4 0 q 1 0) (congrArg (fun q=>(pts q).length) eC))) rfl (by rw[eC];exact aA _) (congrArg (fun q=>some (di S q)) eD)
  clear hin hg0 eC eD hl0 hnl hw h hi i;intro⟨⟨m,C1⟩,hm1,hfl,hg1,hlen,hwh,hm9⟩;have hm1:1<=m:=hm1;have hwh:Wh S.sz m C1:=hwh;have hlen:C1.length<=100000:=hlen;have hm9:m<=100000:=hm9;have hg1:Gt S C1:=hg1;have hfl:ab C1=ab C:=hfl;have hw:IntKind.i64.wrap ((m:Int)+1)=((m+1:Nat):Int):=by rw[al (by omega) (by omega)];omega
  have hw1:IntKind.i64.wrap ((m:Int)-1)=((m-1:Nat):Int):=by rw[al (by omega) (by omega)];omega
  conv=>whnf
  refine ag.dec (fun h=>?_) (fun h=>?_)
  focus
   have h2:m<C1.length:=by
    have h:(m:Int)<((pts C1).length:Int):=h;rw[ao]at h;omega
   have h3:m-1<C1.length:=by omega
   have hd2:=Io hm1 h2;have hgx:Gt S (C1.take (m-1)++(C1[m-1].1,C1[m-1].2)::(C1[m].1,C1[m].2)::C1.drop (m+1)):=by rw[hd2];exact hg1
   have hjo:Sm5 S.sz C1[m-1].2->Sm5 S.sz C1[m].2->bK S.sz C1[m-1].2 C1[m].2=((C1[m-1].2++C1[m].2,[]),0)/\Gt S (C1.take (m-1)++(C1[m-1].1,C1[m-1].2++C1[m].2)::C1.drop (m+1))/\ab (C1.take (m-1)++(C1[m-1].1,C1[m-1].2++C1[m].2)::C1.drop (m+1))=ab C:=fun a b=>by
    have:=Ob hgx a b;rw[hd2,hfl]at this;exact this
   have hwn:=Od hwh hm1 h2;have hwj:=Oc (c:=(C1[m-1].1,C1[m-1].2++C1[m].2)) (B:=C1.drop (m+1)) hwh h2;have hpj:=Lz hm1 h2 (C1[m-1].2++C1[m].2);have hlj:(C1.take (m-1)++(C1[m-1].1,C1[m-1].2++C1[m].2)::C1.drop (m+1)).length=C1.length-1:=by simp only[List.length_append,List.length_cons,List.length_take,List.length_drop];omega
   obtain⟨C2,hC2⟩:∃C2,C2=C1.take (m-1)++(C1[m-1].1,C1[m-1].2++C1[m].2)::C1.drop (m+1):=⟨_,rfl⟩
   have hcl:Sm5 S.sz C1[m-1].2->Sm5 S.sz C1[m].2->eT S.sz (C1.take (m-1)++(C1[m-1].1,(bK S.sz C1[m-1].2 C1[m].2).1.1)::(C1[m].1,(bK S.sz C1[m-1].2 C1[m].2).1.2)::C1.drop (m+1)) C2:=fun a b=>by
    rw[(hjo a b).1,hC2];exact eT.sub (((List.sublist_cons_self _ _).cons_cons _).append_left _)
   rw[<-hC2]at hjo hwj hpj hlj;have hpk:(vC [(0,.ptr 0 0),(5,.si .i64 ((m:Int)))] S (pts C1) C1).2.1.get 2=some (.sep (pk (chs S.sz (C1.take (m-1)++(C1[m-1].1,C1[m-1].2)::(C1[m].1,C1[m].2)::C1.drop (m+1))))):=by rw[hd2];rfl
   have s1:bp (aU (pts C1)) 0 (m*1)=some (aU ((pts C1).take m)):=by
    unfold bp;rw[Nat.ble_eq_true_of_le (by rw[bS,ao];omega),List.drop_zero,Nat.mul_one,xU]
   have s2:bp (aU (pts C1)) (0+(m+1)*1) (((pts C1).length-(m+1))*1)=some (aU ((pts C1).drop (m+1))):=by
    unfold bp;rw[Nat.ble_eq_true_of_le (by rw[bS,ao];omega),show 0+(m+1)*1=m+1 by omega,xV,Nat.mul_one,List.take_of_length_le (by rw[bS,List.length_drop];exact Nat.le_refl _)]
   have hmp:m<=(pts C1).length:=by rw[ao];omega
   have hmp1:m+1<=(pts C1).length:=by rw[ao];omega
   have hbig:(m+((pts C1).length-(m+1)))*8<=140737488355328:=by rw[ao];omega
   have hmx:max (1:Int) (IntKind.i64.wrap ((m:Int)-1))=((max 1 (m-1):Nat):Int):=by rw[hw1];omega
   conv=>whnf
   refine Idx.mk m rfl (by rw[ao];exact h2) ?_
   conv=>whnf
   refine ay (dH h2 (show 0+m*1=m by omega)) ?_
   conv=>whnf
   refine⟨2,S.sz,C1.take m,C1.drop (m+1),C1[m].1,C1[m].2,rfl,vL h2 rfl,?_⟩
   conv=>whnf
   refine ag.dh (fun z1=>?_) (fun z1=>?_)
   focus
    have z1:¬Sm5 S.sz C1[m].2:=z1
    conv=>whnf
    exact⟨⟨(m+1,C1),Nat.le_add_left 1 m,hfl,hg1,hlen,hwn (fun q=>z1 q.2),by show m+1<=100000;omega⟩,by show 2*C1.length-(m+1)<2*C1.length-m;omega,nh 3 (le:=[(0,.ptr 0 0),(5,.si .i64 (((m+1:Nat):Int)))]) (Nat.le_refl 3) (fun x hx=>by
   simp only[List.mem_cons,List.not_mem_nil,or_false]at hx;rcases hx with rfl|rfl
   ·exact ah.ptr (Nat.le_of_ble_eq_true rfl) rfl
   ·exact ah.int (congrArg (AV.si .i64) hw)) ⟨by decide,by decide⟩ rfl rfl rfl rfl rfl rfl (ah.rw (Nat.le_of_ble_eq_true rfl) rfl) rfl (aA _) rfl⟩
   have z1:Sm5 S.sz C1[m].2:=z1
   conv=>whnf
   refine Idx.mk (m-1) hw1 (by rw[ao];exact h3) ?_
   conv=>whnf
   refine ay (dH h3 (show 0+(m-1)*1=m-1 by omega)) ?_
   conv=>whnf
   refine⟨2,S.sz,C1.take (m-1),C1.drop (m-1+1),C1[m-1].1,C1[m-1].2,rfl,vL h3 rfl,?_⟩
   conv=>whnf
   refine ag.dh (fun z2=>?_) (fun z2=>?_)
   focus
    have z2:¬Sm5 S.sz C1[m-1].2:=z2
    conv=>whnf
    exact⟨⟨(m+1,C1),Nat.le_add_left 1 m,hfl,hg1,hlen,hwn (fun q=>z2 q.1),by show m+1<=100000;omega⟩,by show 2*C1.length-(m+1)<2*C1.length-m;omega,nh 3 (le:=[(0,.ptr 0 0),(5,.si .i64 (((m+1:Nat):Int)))]) (Nat.le_refl 3) (fun x hx=>by
   simp only[List.mem_cons,List.not_mem_nil,or_false]at hx;rcases hx with rfl|rfl
   ·exact ah.ptr (Nat.le_of_ble_eq_true rfl) rfl
   ·exact ah.int (congrArg (AV.si .i64) hw)) ⟨by decide,by decide⟩ rfl rfl rfl rfl rfl rfl (ah.rw (Nat.le_of_ble_eq_true rfl) rfl) rfl (aA _) rfl⟩
   have z2:Sm5 S.sz C1[m-1].2:=z2;have j2:=(hjo z2 z1).2.1;have j3:=(hjo z2 z1).2.2
   conv=>whnf
   refine Idx.mk (m-1) hw1 (by rw[ao];exact h3) ?_
   conv=>whnf
   refine ay (dH h3 (show 0+(m-1)*1=m-1 by omega)) ?_
   conv=>whnf
   refine Idx.mk m rfl (by rw[ao];exact h2) ?_
   conv=>whnf
   refine ay (dH h2 (show 0+m*1=m by omega)) ?_
   conv=>whnf
   refine⟨2,S.sz,C1.take (m-1),C1.drop (m+1),C2,C1[m-1].1,C1[m].1,C1[m-1].2,C1[m].2,rfl,rfl,⟨by decide,by decide,rfl,hpk⟩,rfl,by decide,by omega,hhi,hg1.dW _ (List.getElem_mem h3),hg1.dW _ (List.getElem_mem h2),hcl z2 z1,?_⟩
   conv=>whnf
   refine⟨?_,trivial⟩
   conv=>whnf
   refine RSl.mk 0 m rfl rfl (.inr ⟨rfl,rfl⟩) (Nat.zero_le _) hmp ?_
   conv=>whnf
   refine RSl.mk (m+1) (pts C1).length (congrArg (fun q=>lG (some (AV.int .i64 q)) 0) hw) rfl (.inl rfl) hmp1 (Nat.le_refl _) ?_
   conv=>whnf
   by_cases hend:m+1=C1.length
   focus
    have hz:(pts C1).length-(m+1)=0:=by rw[ao];omega
    have hdn:(pts C1).drop (m+1)=[]:=List.drop_eq_nil_of_le (by rw[ao];omega);have hp2:pts C1=pts C2++(pts C1).drop m:=by rw[<-hpj,hdn,List.append_nil,List.take_append_drop]
    have hln:m=(pts C2).length:=by rw[<-hpj,hdn,List.append_nil,List.length_take,ao];omega
    have hsr:∀{H:AH} {b q:Nat},H.get b=some (.cells (aU (pts C1)) true)->yN H 1 (.rw b (0+(m+1)*1) ((pts C1).length-(m+1)) 1 q) 0 []:=fun hb=>by
     rw[hz]
     exact .rw (.inr ⟨_,hb⟩) (by
      unfold bp;rw[Nat.ble_eq_true_of_le (by rw[bS,ao];omega)];rfl)
    refine bC.b9 1 8 3 0 m 1 _ true rfl (by decide) B3 (hsr rfl) rfl ?_
    conv=>whnf
    exact⟨⟨(max 1 (m-1),C2),Nat.le_max_left _ _,j3,j2,by show C2.length<=100000;omega,hwj,by show max 1 (m-1)<=100000;omega⟩,by show 2*C2.length-max 1 (m-1)<2*C1.length-m;omega,RO 3 (X:=(pts C1).drop m) (le:=[(0,.ptr 0 0),(5,.si .i64 (((max 1 (m-1):Nat):Int)))]) (Nat.le_refl 3) (fun x hx=>by
   simp only[List.mem_cons,List.not_mem_nil,or_false]at hx;rcases hx with rfl|rfl
   ·exact ah.ptr (Nat.le_of_ble_eq_true rfl) rfl
   ·exact ah.int (congrArg (AV.si .i64) hmx)) ⟨by decide,by decide⟩ rfl rfl rfl rfl rfl rfl (ah.rw (Nat.le_of_ble_eq_true rfl) (congrArg (fun q=>AV.rw 3 0 q 1 1) hln)) (congrArg (fun q=>some (AO.cells (aU q) true)) hp2) rfl⟩
   have hln:m+((pts C1).length-(m+1))=(pts C2).length:=by rw[<-hpj,List.length_append,List.length_take,List.length_drop,ao];omega
   have hn0:(pts C1).length-(m+1)≠0:=by rw[ao];omega
   have hpm:(aU ((pts C1).take m)++aU ((pts C1).drop (m+1))).map mk=aU (pts C2):=by rw[<-hpj,qY,List.map_append,aA,aA]
   refine bC.exact 1 8 ((pts C1).length-(m+1)) 3 0 m (aU ((pts C1).drop (m+1))) (aU ((pts C1).take m)) rfl B3 (.rw (.inr ⟨_,rfl⟩) s2) (by rw[bS,List.length_drop,Nat.mul_one]) (BX _) hn0 (.rw (.inr ⟨_,rfl⟩) s1) hbig ?_
   conv=>whnf
   exact⟨⟨(max 1 (m-1),C2),Nat.le_max_left _ _,j3,j2,by show C2.length<=100000;omega,hwj,by show max 1 (m-1)<=100000;omega⟩,by show 2*C2.length-max 1 (m-1)<2*C1.length-m;omega,nh 6 (le:=[(0,.ptr 0 0),(5,.si .i64 (((max 1 (m-1):Nat):Int)))]) (Nat.le_refl 3) (fun x hx=>by
   simp only[List.mem_cons,List.not_mem_nil,or_false]at hx;rcases hx with rfl|rfl
   ·exact ah.ptr (Nat.le_of_ble_eq_true rfl) rfl
   ·exact ah.int (congrArg (AV.si .i64) hmx)) ⟨by decide,by decide⟩ rfl rfl rfl rfl rfl rfl (ah.rw (Nat.le_of_ble_eq_true rfl) (congrArg (fun q=>AV.rw 6 0 q 1 0) hln)) rfl hpm rfl⟩
  have h2:C1.length<=m:=by
   have:¬m<C1.length:=fun q=>h (by
    show(m:Int)<((pts C1).length:Int);rw[ao];omega)
   omega
  have hwe:Wh S.sz C1.length C1:=fun j hj hjn=>hwh j hj (by omega)
  conv=>whnf
  exact fu (TdP S C) ⟨rfl,rfl,rfl,hfl,hg1,hwe⟩ (VTo.mk5 rfl) (fun φ ψ w h=>jl rfl h) 3 ⟨by decide,by decide⟩ rfl rfl rfl rfl rfl rfl (ah.rw (Nat.le_of_ble_eq_true rfl) rfl) rfl (aA _) rfl
def tZ (args:List AV) (H:AH) (n:Nat) (κ:PK):Prop:=match args with
 | [x]=>∃(r k q:Nat) (S:Sr) (C:Ck5),x= .ptr r 0/\ew H n r k q S (pts C) C/\Pre5 S C/\C.length<=100000/\∀C',ab C'=ab C->Gt S C'->Wh S.sz C'.length C'->κ (.tup []) (fF H n r k q S (pts C') C') (n+1)
 |_=>False
theorem LB:ai 132 tZ:=fun args H n κ hs φ h0' hp vs K hr hargs hk=>by
 unfold tZ at hs;split at hs
 ·obtain⟨w1,us1,q1,e1,r1⟩:=hargs.cons_inv;obtain⟨r,k,q,S,C,rfl,hR,hP,hf,hs⟩:=hs;refine gi (an RQ 5 _) (by kernel_rfl) (LA S C hP hf) (fun _=>rfl) hr hR hargs hk (fun u S' V' C' ⟨g,_⟩=>by subst g;exact⟨fun _=>rfl,rfl⟩) fun u S' V' C' ⟨g1,g2,g3,g4,g5,g6⟩=>?_
  subst g1 g2 g3;exact hs C' g4 g5 g6
 ·exact hs.elim
def ex5 (C:Ck5):Nat:=(C.map fun c=>c.2.length-1).sum
theorem FZ (A B:Ck5):ex5 (A++B)=ex5 A+ex5 B:=by simp[ex5]
theorem l8 (c:(Nat×Nat)×Smp) (B:Ck5):ex5 (c::B)=(c.2.length-1)+ex5 B:=by simp[ex5]
theorem zq:∀C:Ck5,ex5 C<=(ab C).length
 | []=>Nat.le_refl _
 |c::C=>by
  have:=zq C;rw[l8,bI,List.length_append];omega
structure oc (S:Sr) (C:Ck5):Prop where
 lo:128<=S.sz
 hi:S.sz<=4096
 up:Up (ab C)
 dW:∀c∈C,cK c.2
theorem Og {sz:Nat} {L:Smp} (hs:128<=sz) (h:¬(usd L:Int)<=(sz:Int)):2<=L.length:=by
 rcases Nat.lt_or_ge L.length 2 with q|q
 ·have h1:=oL (L:=L) (by omega);have h2:=qZ L;omega
 ·exact q
theorem Oh {sz:Nat} {L:Smp} (h:(usd L:Int)<=(sz:Int)):(aT L).length<=8*sz:=by
 have h2:=qZ L;omega
theorem LC {S:Sr} {A B:Ck5} {p q:Nat×Nat} {L:Smp} (hg:oc S (A++(p,L)::B)) (h2:2<=L.length):oc S (A++(p,L.take (bT L))::(q,L.drop (bT L))::B)/\ab (A++(p,L.take (bT L))::(q,L.drop (bT L))::B)=ab (A++(p,L)::B)/\ex5 (A++(p,L.take (bT L))::(q,L.drop (bT L))::B)+1=ex5 (A++(p,L)::B):=by
 obtain⟨k1,k2⟩:=zi h2;have hF:cK L:=hg.dW (p,L) (by simp)
 have ef:ab (A++(p,L.take (bT L))::(q,L.drop (bT L))::B)=ab (A++(p,L)::B):=by
  rw[fk,fk,bI,<-List.append_assoc (L.take (bT L)),List.take_append_drop]
 refine⟨⟨hg.lo,hg.hi,by rw[ef];exact hg.up,fun c hc=>?_⟩,ef,?_⟩
 ·rcases db.1 hc with rfl|k
  ·exact hF.sub (List.take_sublist _ _)
  ·rcases db.1 k with rfl|k
   ·exact hF.sub (List.drop_sublist _ _)
   ·exact hg.dW c (db.2 (.inr k))
 ·rw[FZ,FZ,l8,l8,l8];simp only[List.length_take,List.length_drop];omega
def FtP (S0:Sr) (C0:Ck5):AV->Sr->Ps->Ck5->Prop:=fun u S V C=>u= .tup []/\S=S0/\V=pts C/\ab C=ab C0/\Pre5 S0 C/\C.length+ex5 C=C0.length+ex5 C0
def T1:DT:=[(2,[(some 0,[0]),(some 0,[12]),(some 0,[13]),(some 0,[14]),(some 0,[2]),(some 0,[15,16]),(some 0,[17]),(none,[18]),(some 1,[0]),(some 2,[20]),(some 3,[21]),(some 4,[22]),(some 0,[19,23])])]
noncomputable def T3:FuncId->EP:=aw 184 zo (aw 185 oN (cT 202 (p6 Lh) evP))
theorem Oi:aW T3:=ae (ae (a8 az FT (FQ _)) B5) B4
noncomputable def KFt:FuncId->EP:=aV 158 T1 T3
theorem RR:aW KFt:=aq Oi (by kernel_rfl) (by kernel_rfl)
theorem Oj (S:Sr) (C:Ck5) (hp:oc S C) (hf:C.length+ex5 C<=100000):fG (ax KFt 5 158) [.ptr 0 0] (mkH (bH (iG S (pts C) C) 0)) 3 (SP (FtP S C)):=by
 have hlo:=hp.lo;have hhi:=hp.hi;show ax KFt 5 _ _ _ _ _
 conv=>whnf
 refine aS.mk {x:Nat×Ck5//ab x.2=ab C/\oc S x.2/\x.2.length+ex5 x.2=C.length+ex5 C/\x.1<=x.2.length/\∀j,(hj:j<x.2.length)->j<x.1->(aT (x.2[j]).2).length<=8*S.sz} 4 (fun x=>((vC [(0,.ptr 0 0),(2,.si .i64 ((x.val.1:Int)))] S (pts x.val.2) x.val.2).1,(vC [(0,.ptr 0 0),(2,.si .i64 ((x.val.1:Int)))] S (pts x.val.2) x.val.2).2.1)) (fun x=>2*ex5 x.val.2+(x.val.2.length-x.val.1)) ⟨(0,C),rfl,hp,rfl,Nat.zero_le _,fun j hj hn=>absurd hn (Nat.not_lt_zero j)⟩ ?_ ?_
 focus
  exact nh 1 (le:=[(0,.ptr 0 0),(2,.si .i64 (((0:Nat):Int)))]) (Nat.le_refl 3) (fun x hx=>by
   simp only[List.mem_cons,List.not_mem_nil,or_false]at hx;rcases hx with rfl|rfl
   ·exact ah.ptr (Nat.le_of_ble_eq_true rfl) rfl
   ·exact ah.int rfl) ⟨by decide,by decide⟩ rfl rfl rfl rfl rfl rfl (ah.rw (Nat.le_of_ble_eq_true rfl) rfl) rfl (aA _) rfl
 intro⟨⟨m,C1⟩,hfl,hg1,hK,hml,hft⟩;have hfl:ab C1=ab C:=hfl;have hg1:oc S C1:=hg1;have hK:C1.length+ex5 C1=C.length+ex5 C:=hK;have hml:m<=C1.length:=hml;have hft:∀j,(hj:j<C1.length)->j<m->(aT (C1[j]).2).length<=8*S.sz:=hft;have hw:IntKind.i64.wrap ((m:Int)+1)=((m+1:Nat):Int):=by rw[al (by omega) (by omega)];omega
 have hend:¬m<C1.length->Pre5 S C1:=fun h=>⟨hg1.lo,hg1.hi,hg1.up,hg1.dW,fun c hc=>by
  obtain⟨j,hj,rfl⟩:=List.getElem_of_mem hc;exact hft j hj (by omega)⟩
 have hlC:(pts C1).length=C1.length:=ao C1
 have body:∀h2:m<C1.length,(2<=C1[m].2.length->∃D2:Nat×Nat->Ck5,∀o,eT S.sz (C1.take m++(C1[m].1,C1[m].2.take (bT C1[m].2))::(o,C1[m].2.drop (bT C1[m].2))::C1.drop (m+1)) (D2 o)/\(pts C1).take (m+1)++o::(pts C1).drop (m+1)=pts (D2 o)/\ab (D2 o)=ab C/\oc S (D2 o)/\(D2 o).length=C1.length+1/\ex5 (D2 o)+1=ex5 C1/\∀j,(hj:j<(D2 o).length)->j<m->(aT ((D2 o)[j]).2).length<=8*S.sz)/\((aT C1[m].2).length<=8*S.sz->∀j,(hj:j<C1.length)->j<m+1->(aT (C1[j]).2).length<=8*S.sz):=fun h2=>by
  have hsp:=fb h2;refine⟨fun k=>⟨fun o=>C1.take m++(C1[m].1,C1[m].2.take (bT C1[m].2))::(o,C1[m].2.drop (bT C1[m].2))::C1.drop (m+1),fun o=>⟨eT.refl _ _,FX h2 o _ _,?_⟩⟩,fun k j hj hjn=>?_⟩
  ·have hs:=LC (q:=o) (A:=C1.take m) (B:=C1.drop (m+1)) (p:=C1[m].1) (L:=C1[m].2) (S:=S) (by rw[hsp];exact hg1) k;rw[hsp,hfl]at hs;refine⟨hs.2.1,hs.1,by simp only[List.length_append,List.length_cons,List.length_take,List.length_drop];omega,hs.2.2,?_⟩;refine fun j hj hjn=>?_
   have e:(C1.take m++(C1[m].1,C1[m].2.take (bT C1[m].2))::(o,C1[m].2.drop (bT C1[m].2))::C1.drop (m+1))[j]'hj=C1[j]'(by omega):=by
    rw[List.getElem_append_left (by rw[List.length_take];omega),List.getElem_take]
   rw[e];exact hft j (by omega) hjn
  ·by_cases q:j=m
   ·subst q;exact k
   ·exact hft j hj (by omega)
 conv=>whnf
 refine ag.dec (fun h=>?_) (fun h=>?_)
 focus
  have h2:m<C1.length:=by
   have h:(m:Int)<((pts C1).length:Int):=h;omega
  have hb:=body h2;have hmp:m<(pts C1).length:=by omega
  have hO:cK C1[m].2:=hg1.dW _ (List.getElem_mem h2)
  conv=>whnf
  refine Idx.mk m rfl hmp ?_
  conv=>whnf
  refine ay (dH h2 (show 0+m*1=m by omega)) ?_
  conv=>whnf
  refine⟨2,S.sz,C1.take m,C1.drop (m+1),C1[m].1,C1[m].2,rfl,vL h2 rfl,?_⟩
  conv=>whnf
  refine ag.dec (fun z=>?_) (fun z=>?_)
  focus
   have z:(usd C1[m].2:Int)<=(S.sz:Int):=z;have k1:=hb.2 (Oh z)
   conv=>whnf
   exact⟨⟨(m+1,C1),hfl,hg1,hK,h2,k1⟩,by show 2*ex5 C1+(C1.length-(m+1))<2*ex5 C1+(C1.length-m);omega,nh 3 (le:=[(0,.ptr 0 0),(2,.si .i64 (((m+1:Nat):Int)))]) (Nat.le_refl 3) (fun x hx=>by
   simp only[List.mem_cons,List.not_mem_nil,or_false]at hx;rcases hx with rfl|rfl
   ·exact ah.ptr (Nat.le_of_ble_eq_true rfl) rfl
   ·exact ah.int (congrArg (AV.si .i64) hw)) ⟨by decide,by decide⟩ rfl rfl rfl rfl rfl rfl (ah.rw (Nat.le_of_ble_eq_true rfl) rfl) rfl (aA _) rfl⟩
  have z:¬(usd C1[m].2:Int)<=(S.sz:Int):=z;have hL2:=Og hlo z;have k1:=hb.1 hL2;clear hb body;revert k1;refine fun⟨D2,k1⟩=>?_
  conv=>whnf
  refine Idx.mk m rfl hmp ?_
  conv=>whnf
  refine ay (dH h2 (show 0+m*1=m by omega)) ?_
  conv=>whnf
  refine⟨2,S.sz,C1.take m,C1.drop (m+1),C1[m].1,C1[m].2,D2,rfl,ll h2 rfl (by decide) (by decide) rfl,rfl,by decide,by omega,hO,hL2,fun o=>⟨(k1 o).1,?_⟩⟩;have k2:=(k1 o).2
  conv=>whnf
  refine⟨0,3,2,m+1,S,pts C1,pts (D2 o),D2 o,o,rfl,congrArg (AV.si .i64) hw,rfl,⟨⟨by decide,by decide,by decide⟩,⟨by decide,by decide,by decide⟩,rfl,rfl,rfl⟩,by omega,by omega,k2.1,?_⟩
  conv=>whnf
  exact⟨⟨(m,D2 o),k2.2.1,k2.2.2.1,by show(D2 o).length+ex5 (D2 o)=C.length+ex5 C;have:=k2.2.2.2.1;have:=k2.2.2.2.2.1;omega,by show m<=(D2 o).length;have:=k2.2.2.2.1;omega,k2.2.2.2.2.2⟩,by show 2*ex5 (D2 o)+((D2 o).length-m)<2*ex5 C1+(C1.length-m);have:=k2.2.2.2.1;have:=k2.2.2.2.2.1;omega,nh 6 (le:=[(0,.ptr 0 0),(2,.si .i64 ((m:Int)))]) (Nat.le_refl 3) (fun x hx=>by
   simp only[List.mem_cons,List.not_mem_nil,or_false]at hx;rcases hx with rfl|rfl
   ·exact ah.ptr (Nat.le_of_ble_eq_true rfl) rfl
   ·exact ah.int rfl) ⟨by decide,by decide⟩ rfl rfl rfl rfl rfl rfl (ah.rw (Nat.le_of_ble_eq_true rfl) rfl) rfl (aA _) rfl⟩
 have h2:¬m<C1.length:=fun q=>h (by
  show(m:Int)<((pts C1).length:Int);omega)
 have hpe:=hend h2
 conv=>whnf
 exact fu (FtP S C) ⟨rfl,rfl,rfl,hfl,hpe,hK⟩ (VTo.mk5 rfl) (fun φ ψ w h=>jl rfl h) 3 ⟨by decide,by decide⟩ rfl rfl rfl rfl rfl rfl (ah.rw (Nat.le_of_ble_eq_true rfl) rfl) rfl (aA _) rfl
def D8 (args:List AV) (H:AH) (n:Nat) (κ:PK):Prop:=match args with
 | [x]=>∃(r k q:Nat) (S:Sr) (C:Ck5),x= .ptr r 0/\ew H n r k q S (pts C) C/\oc S C/\C.length+ex5 C<=100000/\∀C',ab C'=ab C->Pre5 S C'->C'.length<=100000->κ (.tup []) (fF H n r k q S (pts C') C') (n+1)
 |_=>False
theorem T4:ai 158 D8:=fun args H n κ hs φ h0' hp vs K hr hargs hk=>by
 unfold D8 at hs;split at hs
 ·obtain⟨w1,us1,q1,e1,r1⟩:=hargs.cons_inv;obtain⟨r,k,q,S,C,rfl,hR,hP,hf,hs⟩:=hs;refine gi (an RR 5 _) (by kernel_rfl) (Oj S C hP hf) (fun _=>rfl) hr hR hargs hk (fun u S' V' C' ⟨g,_⟩=>by subst g;exact⟨fun _=>rfl,rfl⟩) fun u S' V' C' ⟨g1,g2,g3,g4,g5,g6⟩=>?_
  subst g1 g2 g3;exact hs C' g4 g5 (by omega)
 ·exact hs.elim
def eM (a b:Int) (C:Ck5):Ck5:=C.map fun c=>(c.1,aO c.2 a b)
theorem p7 (a b:Int):∀C:Ck5,ab (eM a b C)=aO (ab C) a b
 | []=>rfl
 |c::C=>by
  have ih:=p7 a b C;show ab ((c.1,aO c.2 a b)::eM a b C)=_;rw[bI,bI,ih];unfold aO;rw[List.filter_append]
theorem Ip (a b:Int) (C:Ck5):pts (eM a b C)=pts C:=by simp[eM,pts]
theorem Iq (a b:Int) (C:Ck5):(eM a b C).length=C.length:=List.length_map _
theorem B8 (a b:Int):∀C:Ck5,ex5 (eM a b C)<=ex5 C
 | []=>Nat.le_refl _
 |c::C=>by
  have ih:=B8 a b C;show ex5 ((c.1,aO c.2 a b)::eM a b C)<=_;rw[l8,l8];have:(aO c.2 a b).length<=c.2.length:=List.length_filter_le _ _;show((aO c.2 a b).length-1)+_<=_;omega
theorem LD {S:Sr} {C:Ck5} (h:oc S C) (a b:Int):oc S (eM a b C):=⟨h.lo,h.hi,by rw[p7];exact h.up.sublist List.filter_sublist,fun c hc=>by
 obtain⟨d,hd,rfl⟩:=List.mem_map.1 hc;exact vp (h.dW d hd) a b⟩
theorem D9 {a b:Int} {C:Ck5} {i:Nat} (h:i<C.length):eM a b (C.take (i+1))=eM a b (C.take i)++ [(C[i].1,aO C[i].2 a b)]:=by
 unfold eM;rw[List.take_add_one,List.getElem?_eq_getElem h,List.map_append];rfl
theorem xW {C:Ck5} {i:Nat} (h:i<C.length):ab (C.take (i+1))=ab (C.take i)++C[i].2:=by
 rw[List.take_add_one,List.getElem?_eq_getElem h,jb];simp[ab,cnt]
theorem zr (C:Ck5) (i:Nat):(ab (C.take i)).length<=(ab C).length:=by
 have:ab C=ab (C.take i)++ab (C.drop i):=by rw[<-jb,List.take_append_drop]
 rw[this,List.length_append];omega
def dlN (a b:Int) (C:Ck5):Nat:=(ab C).length-(aO (ab C) a b).length
theorem od (L:Smp) (a b:Int):(aO L a b).length<=L.length:=List.length_filter_le _ _
theorem LF {a b:Int} {C:Ck5} {i:Nat} (h:i<C.length):(dlN a b (C.take (i+1)):Int)=(dlN a b (C.take i):Int)+((C[i].2.length:Int)-((aO C[i].2 a b).length:Int)):=by
 unfold dlN;have h1:=od (ab (C.take i)) a b;have h2:=od C[i].2 a b;rw[xW h];have e:aO (ab (C.take i)++C[i].2) a b=aO (ab (C.take i)) a b++aO C[i].2 a b:=List.filter_append _ _;rw[e,List.length_append,List.length_append];omega
def DlP (S0:Sr) (C0:Ck5) (a b:Int):AV->Sr->Ps->Ck5->Prop:=fun u S V C=>u= .si .i64 ((dlN a b C0:Nat):Int)/\S=S0/\V=pts C/\ab C=aO (ab C0) a b/\Gt S0 C/\Wh S0.sz C.length C
noncomputable def KDl:FuncId->EP:=aV 100 [] (aw 158 D8 (aw 132 tZ (aw 157 vB evP)))
theorem RS:aW KDl:=aq (ae (ae (ae az N0) LB) T4) (by kernel_rfl) (by kernel_rfl)
theorem Ol (S:Sr) (C:Ck5) (a b:Int) (hp:oc S C) (hf:C.length+ex5 C<=100000) (hf2:(ab C).length<=100000):fG (ax KDl 5 100) [.ptr 0 0,.si .i64 a,.si .i64 b] (mkH (bH (iG S (pts C) C) 0)) 3 (SP (DlP S C a b)):=by
 have hlo:=hp.lo;have hhi:=hp.hi;have hpd:=LD hp a b;have hex:=B8 a b C;have hdl:=Iq a b C;show ax KDl 5 _ _ _ _ _
 conv=>whnf
 refine ag.dh (fun z=>absurd (show(0:Int)<(S.sz:Int) by omega) z) (fun _=>?_)
 conv=>whnf
 refine aS.mk {i:Nat//i<=C.length} 4 (fun i=>((vC [(0,.ptr 0 0),(1,.si .i64 a),(2,.si .i64 b),(7,.si .i64 ((dlN a b (C.take i.val):Nat):Int)),(16,.rw 3 0 (pts C).length 1 0),(17,.si .i64 ((pts C).length:Int)),(18,.si .i64 ((i.val:Int)))] S (pts C) (eM a b (C.take i.val)++C.drop i.val)).1,(vC [(0,.ptr 0 0),(1,.si .i64 a),(2,.si .i64 b),(7,.si .i64 ((dlN a b (C.take i.val):Nat):Int)),(16,.rw 3 0 (pts C).length 1 0),(17,.si .i64 ((pts C).length:Int)),(18,.si .i64 ((i.val:Int)))] S (pts C) (eM a b (C.take i.val)++C.drop i.val)).2.1)) (fun i=>C.length-i.val) ⟨0,Nat.zero_le _⟩ ?_ ?_
 focus
  exact nh 1 (le:=[(0,.ptr 0 0),(1,.si .i64 a),(2,.si .i64 b),(7,.si .i64 ((dlN a b (C.take 0):Nat):Int)),(16,.rw 3 0 (pts C).length 1 0),(17,.si .i64 ((pts C).length:Int)),(18,.si .i64 (((0:Nat):Int)))]) (Nat.le_refl 3) (fun x hx=>by
   simp only[List.mem_cons,List.not_mem_nil,or_false]at hx;rcases hx with rfl|rfl|rfl|rfl|rfl|rfl|rfl
   ·exact ah.ptr (Nat.le_of_ble_eq_true rfl) rfl
   ·exact ah.int rfl
   ·exact ah.int rfl
   ·exact ah.int rfl
   ·exact ah.rw (Nat.le_of_ble_eq_true rfl) rfl
   ·exact ah.int rfl
   ·exact ah.int rfl) ⟨by decide,by decide⟩ rfl rfl rfl rfl rfl rfl (ah.rw (Nat.le_of_ble_eq_true rfl) rfl) rfl (aA _) rfl
 intro⟨i,hi⟩;have hw:IntKind.i64.wrap ((i:Int)+1)=((i+1:Nat):Int):=by rw[al (by omega) (by omega)];omega
 have hlC:(pts C).length=C.length:=ao C;have hle:=zr C (i+1)
 have st:∀h:i<C.length,some (di S (eM a b (C.take i)++C.drop i))=some (AO.sep (pk (chs S.sz (eM a b (C.take i)++(C[i].1,C[i].2)::C.drop (i+1)))))/\eT S.sz (eM a b (C.take i)++(C[i].1,aO C[i].2 a b)::C.drop (i+1)) (eM a b (C.take (i+1))++C.drop (i+1))/\IntKind.i64.wrap (((dlN a b (C.take i):Nat):Int)+((C[i].2.length:Int)-((aO C[i].2 a b).length:Int)))=((dlN a b (C.take (i+1)):Nat):Int):=fun h=>by
  refine⟨by rw[show C.drop i=(C[i].1,C[i].2)::C.drop (i+1) from List.drop_eq_getElem_cons h];rfl,by rw[D9 h,List.append_assoc];exact eT.refl _ _,?_⟩;have e:=LF (a:=a) (b:=b) h;rw[<-e];have:dlN a b (C.take (i+1))<=100000:=by unfold dlN;omega
  rw[al (by omega) (by omega)]
 conv=>whnf
 refine ag.dec (fun h=>?_) (fun h=>?_)
 focus
  have h2:i<C.length:=by
   have h:(i:Int)<((pts C).length:Int):=h;omega
  have st2:=st h2;have hO:cK C[i].2:=hp.dW _ (List.getElem_mem h2)
  conv=>whnf
  refine Idx.mk i rfl (by omega) ?_
  conv=>whnf
  refine ay (dH h2 (show 0+i*1=i by omega)) ?_
  conv=>whnf
  refine⟨2,S.sz,eM a b (C.take i),C.drop (i+1),eM a b (C.take (i+1))++C.drop (i+1),C[i].1,C[i].2,a,b,rfl,rfl,rfl,⟨by decide,by decide,rfl,st2.1⟩,by omega,hO,st2.2.1,?_⟩
  conv=>whnf
  exact⟨⟨i+1,h2⟩,by show C.length-(i+1)<C.length-i;omega,nh 3 (le:=[(0,.ptr 0 0),(1,.si .i64 a),(2,.si .i64 b),(7,.si .i64 ((dlN a b (C.take (i+1)):Nat):Int)),(16,.rw 3 0 (pts C).length 1 0),(17,.si .i64 ((pts C).length:Int)),(18,.si .i64 (((i+1:Nat):Int)))]) (Nat.le_refl 3) (fun x hx=>by
   simp only[List.mem_cons,List.not_mem_nil,or_false]at hx;rcases hx with rfl|rfl|rfl|rfl|rfl|rfl|rfl
   ·exact ah.ptr (Nat.le_of_ble_eq_true rfl) rfl
   ·exact ah.int rfl
   ·exact ah.int rfl
   ·exact ah.int (congrArg (AV.si .i64) st2.2.2)
   ·exact ah.rw (Nat.le_of_ble_eq_true rfl) rfl
   ·exact ah.int rfl
   ·exact ah.int (congrArg (AV.si .i64) hw)) ⟨by decide,by decide⟩ rfl rfl rfl rfl rfl rfl (ah.rw (Nat.le_of_ble_eq_true rfl) rfl) rfl (aA _) rfl⟩
 have hin:i=C.length:=by
  have:¬i<C.length:=fun q=>h (by
   show(i:Int)<((pts C).length:Int);omega)
  omega
 have eD:eM a b (C.take i)++C.drop i=eM a b C:=by rw[hin,List.take_length,List.drop_length,List.append_nil]
 have eN:dlN a b (C.take i)=dlN a b C:=by rw[hin,List.take_length]
 have eS:some (di S (eM a b (C.take i)++C.drop i))=some (di S (eM a b C)):=by rw[eD]
 have eP:=Ip a b C;have eP1:some (AO.cells (cR S 3 (pts C).length) true)=some (AO.cells (cR S 3 (pts (eM a b C)).length) true):=by rw[eP]
 have eP2:some (AO.cells (aU (pts C)) true)=some (AO.cells (aU (pts (eM a b C))) true):=by rw[eP]
 have eF:=p7 a b C;have eU:AV.si .i64 ((dlN a b (C.take i):Nat):Int)= .si .i64 ((dlN a b C:Nat):Int):=by rw[eN]
 clear st
 conv=>whnf
 refine⟨0,3,2,S,eM a b C,rfl,⟨⟨by decide,by decide,by decide⟩,⟨by decide,by decide,by decide⟩,eP1,eP2,eS⟩,hpd,by omega,fun C1 f1 f2 f3=>?_⟩
 conv=>whnf
 refine⟨0,4,2,S,C1,rfl,⟨⟨by decide,by decide,by decide⟩,⟨by decide,by decide,by decide⟩,rfl,rfl,rfl⟩,f2,f3,fun C2 g1 g2 g3=>?_⟩
 conv=>whnf
 exact fu (DlP S C a b) ⟨rfl,rfl,rfl,by rw[g1,f1,eF],g2,g3⟩ (VTo.mk5 eU) VR.eJ 5 ⟨by decide,by decide⟩ rfl rfl rfl rfl rfl rfl (ah.rw (Nat.le_of_ble_eq_true rfl) rfl) rfl (aA _) rfl
noncomputable def Qp (le:List (Nat×AV)) (S:Sr) (V:Ps) (C:Ck5):AE×AH×Nat:=(mkE le,mkH [(0,.cells (cR S 1 V.length) true),(1,.cells (aU V) true),(2,di S C)],3)
theorem RT {σ:AE} {H:AH} {n:Nat} {S:Sr} {V:Ps} {C:Ck5} {le:List (Nat×AV)} (he:∀x∈le,ah H 3 (fun b=>b) (ak (pa x.1) σ) x.2) (hc:PM.get H 0=some (.cells (cR S 1 V.length) true)) (hl:PM.get H 1=some (.cells (aU V) true)) (hq:PM.get H 2=some (di S C)):Cov 3 σ H n (Qp le S V C):=by
 refine Cov.ofR (m:=3) (p:=3) (fun b=>b) (Nat.le_refl _) (fun b hb=>rfl) he ?_ (fun x hx y hy e=>e);intro x hx;simp only[List.mem_cons,List.not_mem_nil,or_false]at hx;rcases hx with rfl|rfl|rfl
 ·exact⟨Nat.le_of_ble_eq_true rfl,.inl ⟨_,hc,au.cR rfl rfl rfl rfl rfl (ah.rw (Nat.le_of_ble_eq_true rfl) rfl)⟩⟩
 ·exact⟨Nat.le_of_ble_eq_true rfl,.inl ⟨_,hl,au.aU (aA _)⟩⟩
 ·exact⟨Nat.le_of_ble_eq_true rfl,.inl ⟨_,hq,au.sep _⟩⟩
def RoP (P:AV->Prop) (S:Sr) (V:Ps) (C:Ck5):PK:=fun u H' m=>P u/\H'=mkH [(0,.cells (cR S 1 V.length) true),(1,.cells (aU V) true),(2,di S C)]/\m=3
theorem tq {u v:AV} {H:AH} {n:Nat} {S:Sr} {V:Ps} {C:Ck5} (P:AV->Prop) (hP:P v) (hu:VTo u v) (hv:∀φ ψ w,VR φ v w->VR ψ v w) (hc:PM.get H 0=some (.cells (cR S 1 V.length) true)) (hl:PM.get H 1=some (.cells (aU V) true)) (hq:PM.get H 2=some (di S C)):∃(v2:AV) (H2:AH) (m:Nat),Cov 3 (mkE [(0,u)]) H n (mkE [(0,v2)],H2,m)/\RoP P S V C v2 H2 m:=
 ⟨v,(Qp [(0,v)] S V C).2.1,3,RT (le:=[(0,v)]) (fun x hx=>by
  simp only[List.mem_cons,List.not_mem_nil,or_false]at hx;subst hx;exact fun φ ψ w hr _ hw=>hv φ ψ w (hu φ w hw)) hc hl hq,hP,rfl,rfl⟩
theorem Ea {f:FuncId} {run:List AV->AH->Nat->PK->Prop} (hrun:ai f run) (hic:bW Tryz.prog f=true) {ar0:List AV} {S:Sr} {V:Ps} {C:Ck5} {P:AV->Prop} (h:fG run (.ptr 0 0::ar0) (mkH (bH (iG S V C) 0)) 3 (RoP P S V C)) (har:∀r,du r ar0=ar0)
 {φ:Ph} {H:AH} {n:Nat} {h0 hp:Hp} {vs:Array Value} {κ:PK} {K:KH} {r k q:Nat} (hr:HR φ H n h0 hp) (hR:ew H n r k q S V C) (hargs:VRs φ (.ptr r 0::ar0) vs.toList) (hk:ck φ h0 κ K) (hP:∀u,P u->(∀f,ren f u=u)/\ltV 3 u=true) (hs:∀u,P u->κ u H n):dj Tryz.prog f vs hp K:=by
 refine dy (S:=[r,k,q]) (O:=iG S V C) (args0:= .ptr 0 0::ar0) (ai.fG hrun) hic hr hR.BY (by show VRs φ (ren _ _::du _ ar0) vs.toList;rw[har];exact hargs) hk h fun u H' n' ⟨g0,g1,g2⟩=>?_
 subst g1 g2;obtain⟨hren,hlt⟩:=hP u g0;refine⟨3,H,Nat.le_refl _,fq.same fun i s o h3 h4 _=>?_,hlt,by rw[hren];exact hs u g0⟩
 match i,h3 with
 |0,h3=>
  injection h3 with h3;subst h3;rw[hR.hr]at h4;injection h4 with h4;subst h4;exact⟨_,rfl,rfl,rfl,rfl⟩
 |1,h3=>
  injection h3 with h3;subst h3;rw[hR.hk]at h4;injection h4 with h4;subst h4;exact⟨_,rfl,rfl,oM _ _,by rw[cx,jx]⟩
 |2,h3=>
  injection h3 with h3;subst h3;rw[hR.hq]at h4;injection h4 with h4;subst h4;exact⟨_,rfl,rfl,rfl,rfl⟩
def l9 (A:Sr->Ck5->List AV->AV->Prop) (args:List AV) (H:AH) (n:Nat) (κ:PK):Prop:=match args with
 |x::ar=>∃(r k q:Nat) (S:Sr) (C:Ck5) (v:AV),x= .ptr r 0/\ew H n r k q S (pts C) C/\A S C ar v/\κ v H n
 |_=>False
theorem LG (A:Sr->Ck5->List AV->AV->Prop):iC (l9 A):= .pure fun args H n κ hs=>by
 unfold l9 at*;split at hs
 ·obtain⟨r,k,q,S,C,v,h1,h2,h3,h4⟩:=hs;exact⟨v,h4,fun κ' h=>⟨r,k,q,S,C,v,h1,h2,h3,h⟩⟩
 ·exact hs.elim
theorem mb {f:FuncId} {A:Sr->Ck5->List AV->AV->Prop} {run:List AV->AH->Nat->PK->Prop} (hrun:ai f run) (hic:bW Tryz.prog f=true) (h:∀S C ar v,A S C ar v->∃ar0,(∀φ vs,VRs φ ar vs->VRs φ ar0 vs)/\(∀r,du r ar0=ar0)/\((∀f,ren f v=v)/\ltV 3 v=true)/\fG run (.ptr 0 0::ar0) (mkH (bH (iG S (pts C) C) 0)) 3 (RoP (fun u=>u=v) S (pts C) C)):ai f (l9 A):=fun args H n κ hs φ h0' hp vs K hr hargs hk=>by
 unfold l9 at hs;split at hs
 ·obtain⟨r,k,q,S,C,v,rfl,hR,hA,hs⟩:=hs;obtain⟨ar0,h1,h2,h3,h4⟩:=h S C _ v hA;obtain⟨w1,us1,q1,e1,r1⟩:=hargs.cons_inv;refine Ea hrun hic h4 h2 hr hR (by rw[q1];exact .cons e1 (h1 _ _ r1)) hk (fun u g=>by subst g;exact h3) fun u g=>by subst g;exact hs
 ·exact hs.elim
def dg (S:Sr):Int:=if S.ret=0 then S.fl else max S.fl (S.mx-S.ret)
noncomputable def T5:FuncId->EP:=aV 24 [] evP
theorem Om:aW T5:=aq az (by kernel_rfl) (by kernel_rfl)
def T6 (S:Sr) (C:Ck5) (ar:List AV) (v:AV):Prop:=ar=[]/\128<=S.sz/\v= .si .i64 (S.mx)
theorem T7:ai 24 (l9 T6):=mb (an Om 4 _) (by kernel_rfl) fun S C ar v hA=>by
 obtain⟨h1,h2,h3⟩:=hA;subst h1 h3;refine⟨[],fun φ vs h=>h,fun _=>rfl,⟨fun _=>rfl,rfl⟩,?_⟩;show ax T5 4 _ _ _ _ _
 conv=>whnf
 refine ag.dh (fun z=>absurd (show(0:Int)<(S.sz:Int) by omega) z) (fun _=>?_)
 conv=>whnf
 exact tq _ rfl (VTo.mk5 rfl) VR.eJ rfl rfl rfl
noncomputable def T8:FuncId->EP:=aV 85 [] evP
theorem On:aW T8:=aq az (by kernel_rfl) (by kernel_rfl)
def T9 (S:Sr) (C:Ck5) (ar:List AV) (v:AV):Prop:=ar=[]/\128<=S.sz/\v= .si .i64 (S.ret)
theorem Ua:ai 85 (l9 T9):=mb (an On 4 _) (by kernel_rfl) fun S C ar v hA=>by
 obtain⟨h1,h2,h3⟩:=hA;subst h1 h3;refine⟨[],fun φ vs h=>h,fun _=>rfl,⟨fun _=>rfl,rfl⟩,?_⟩;show ax T8 4 _ _ _ _ _
 conv=>whnf
 exact tq _ rfl (VTo.mk5 rfl) VR.eJ rfl rfl rfl
noncomputable def Ub:FuncId->EP:=aV 86 [] evP
theorem Oo:aW Ub:=aq az (by kernel_rfl) (by kernel_rfl)
def Uc (S:Sr) (C:Ck5) (ar:List AV) (v:AV):Prop:=ar=[]/\128<=S.sz/\v= .si .i64 (S.pol)
theorem Ud:ai 86 (l9 Uc):=mb (an Oo 4 _) (by kernel_rfl) fun S C ar v hA=>by
 obtain⟨h1,h2,h3⟩:=hA;subst h1 h3;refine⟨[],fun φ vs h=>h,fun _=>rfl,⟨fun _=>rfl,rfl⟩,?_⟩;show ax Ub 4 _ _ _ _ _
 conv=>whnf
 exact tq _ rfl (VTo.mk5 rfl) VR.eJ rfl rfl rfl
noncomputable def Ue:FuncId->EP:=aV 37 [(5,[(some 0,[0]),(some 0,[17]),(some 0,[18]),(some 0,[19]),(some 0,[0]),(some 0,[21]),(some 0,[22]),(some 0,[23]),(some 0,[0]),(some 0,[25]),(some 0,[26]),(some 0,[27]),(some 0,[24,28]),(some 0,[20,29]),(some 0,[30])])] evP
theorem Ot:aW Ue:=aq az (by kernel_rfl) (by kernel_rfl)
def LH (S:Sr) (C:Ck5) (ar:List AV) (v:AV):Prop:=ar=[]/\128<=S.sz/\(0<=S.ret/\S.ret<=1099511627776)/\(-1<=S.mx/\S.mx<1099511627776)/\v= .si .i64 (dg S)
theorem Qq:ai 37 (l9 LH):=mb (an Ot 4 _) (by kernel_rfl) fun S C ar v hA=>by
 obtain⟨h1,h2,h4,h5,h3⟩:=hA;subst h1 h3;refine⟨[],fun φ vs h=>h,fun _=>rfl,⟨fun _=>rfl,rfl⟩,?_⟩;have hw:IntKind.i64.wrap (S.mx-S.ret)=S.mx-S.ret:=al (by omega) (by omega);show ax Ue 4 _ _ _ _ _
 conv=>whnf
 refine ag.dh (fun z=>absurd (show(0:Int)<(S.sz:Int) by omega) z) (fun _=>?_)
 conv=>whnf
 refine ag.dec (fun z=>?_) (fun z=>?_)
 focus
  have e:S.fl=dg S:=(if_pos z).symm
  conv=>whnf
  exact tq _ rfl (VTo.mk5 (congrArg (AV.si .i64) e)) VR.eJ rfl rfl rfl
 have e:max S.fl (IntKind.i64.wrap (S.mx-S.ret))=dg S:=by rw[hw];exact(if_neg z).symm
 conv=>whnf
 exact tq _ rfl (VTo.mk5 (congrArg (AV.si .i64) e)) VR.eJ rfl rfl rfl
theorem Eb {C:Ck5} (h:C=[]):ab C=[]:=by subst h;rfl
def ra (L:Smp):AV:= .tup [.agg [.si .i64 (tAt L (L.length-1)),.si .i64 (vAt L (L.length-1))],.sb (decide ((0:Int)<(L.length:Int)))]
theorem Ir {C:Ck5} (hall:∀c∈C,c.2≠[]) (h:0<C.length):FLv ((C[C.length-1]'(by omega)).2.length-1) (C[C.length-1]'(by omega)).2=ra (ab C):=by
 have hn:0<(C[C.length-1]'(by omega)).2.length:=List.length_pos_iff.2 (hall _ (List.getElem_mem _))
 have e:ab C=ab (C.take (C.length-1))++(C[C.length-1]'(by omega)).2:=by
  have:=xW (C:=C) (i:=C.length-1) (by omega);rw[show C.length-1+1=C.length by omega,List.take_length]at this;exact this
 have k:=sh (A:=ab (C.take (C.length-1))) (M:=(C[C.length-1]'(by omega)).2) ((C[C.length-1]'(by omega)).2.length-1);unfold FLv ra;rw[e,List.length_append,show(ab (C.take (C.length-1))).length+(C[C.length-1]'(by omega)).2.length-1=(ab (C.take (C.length-1))).length+((C[C.length-1]'(by omega)).2.length-1) by omega,k.1,k.2,decide_eq_true (show(0:Int)<((C[C.length-1]'(by omega)).2.length:Int) by omega),decide_eq_true (by omega)]
def Ou:DT:=[(3,[(some 1000000,[]),(none,[0,1,2,3,4,5,6,7,8,9,10,11,12,13,14,15,16])])]
noncomputable def RU:FuncId->EP:=aV 18 Ou (aw 60 (p5 fun L=>L.length-1) evP)
theorem Ov:aW RU:=aq (ae az FP) (by kernel_rfl) (by kernel_rfl)
def Uf (S:Sr) (C:Ck5) (ar:List AV) (v:AV):Prop:=ar=[]/\Gt S C/\(ab C).length<=90000/\v=ra (ab C)
theorem It (L:Smp):∀φ ψ w,VR φ (ra L) w->VR ψ (ra L) w:=fun φ ψ w h=>by
 obtain⟨cs,rfl,hcs⟩:=h.eQ;obtain⟨w1,us1,q1,e1,r1⟩:=hcs.cons_inv;obtain⟨w2,us2,q2,e2,r2⟩:=r1.cons_inv;have:=r2.aM;subst this;exact .tup (by rw[q1,q2];exact .cons (jl rfl e1) (.cons (jl rfl e2) .nil))
theorem Iu (S:Sr) (C:Ck5) (hg:Gt S C) (hf:(ab C).length<=90000):fG (ax RU 5 18) [.ptr 0 0] (mkH (bH (iG S (pts C) C) 0)) 3 (RoP (fun u=>u=ra (ab C)) S (pts C) C):=by
 have hlo:=hg.lo;have hfew:=hg.few;have hlC:(pts C).length=C.length:=ao C;have hla:=Ir hg.all;obtain⟨lv,hlv⟩:∃lv,ra (ab C)=lv:=⟨_,rfl⟩
 have hz:C=[]->VTo (.tup [.agg [.int .i64 0,.int .i64 0],.bool false]) lv:=fun k=>by
  rw[<-hlv,Eb k];exact VTo.Lk rfl rfl rfl
 have hany:∀φ ψ w,VR φ lv w->VR ψ lv w:=hlv▸It _;rw[hlv]at hla⊢;have hw:0<C.length->IntKind.i64.wrap (((pts C).length:Int)-1)=((C.length-1:Nat):Int):=fun _=>by rw[al (by omega) (by omega)];omega
 show ax RU 5 _ _ _ _ _
 conv=>whnf
 refine ag.dh (fun z=>absurd (show(0:Int)<(S.sz:Int) by omega) z) (fun _=>?_)
 conv=>whnf
 refine ag.dec (fun z=>?_) (fun z=>?_)
 focus
  have hC:C=[]:=by
   have z:((pts C).length:Int)=0:=z;exact List.eq_nil_of_length_eq_zero (by omega)
  have e:=hz hC
  conv=>whnf
  exact tq _ rfl e hany rfl rfl rfl
 have hC:0<C.length:=by
  have z:¬((pts C).length:Int)=0:=z;omega
 have hlt:C.length-1<C.length:=by omega
 have hltp:C.length-1<(pts C).length:=by omega
 have hfi:cK C[C.length-1].2:=hg.dW _ (List.getElem_mem hlt);have hw2:=hw hC;have hl2:=hla hC
 conv=>whnf
 refine⟨?_,trivial⟩
 conv=>whnf
 refine Idx.mk (C.length-1) hw2 hltp ?_
 conv=>whnf
 refine ay (dH hlt (show 0+(C.length-1)*1=C.length-1 by omega)) ?_
 conv=>whnf
 refine⟨2,S.sz,C.take (C.length-1),C.drop (C.length-1+1),C,C[C.length-1].1,C[C.length-1].2,rfl,ll hlt rfl (by decide) (by decide) rfl,by omega,hfi,mV hlt,?_⟩
 conv=>whnf
 exact tq _ rfl (fun φ w h=>by rw[<-hl2];exact h) hany rfl rfl rfl
theorem Ow:ai 18 (l9 Uf):=mb (an Ov 5 _) (by kernel_rfl) fun S C ar v ⟨h1,h2,h3,h4⟩=>by
 subst h1 h4;exact⟨[],fun φ vs h=>h,fun _=>rfl,⟨fun _=>rfl,rfl⟩,Iu S C h2 h3⟩
def zt (args:List AV) (H:AH) (n:Nat) (κ:PK):Prop:=match args with
 | [x,y,z]=>∃(r k q:Nat) (S:Sr) (C:Ck5) (t v p:Int),x= .ptr r 0/\mR y t v/\mk z= .si .i64 p/\ew H n r k q S (pts C) C/\Gd S C/\(ab C).length<=80000/\(0<=t/\t<1099511627776)/\aN v/\∀C' e,D6 S C C' t v p e->κ (.si .i64 e) (fF H n r k q S (pts C') C') (n+1)
 |_=>False
theorem RV:ai 130 zt:=fun args H n κ hs φ h0' hp vs K hr hargs hk=>by
 unfold zt at hs;split at hs
 ·obtain⟨w1,us1,q1,e1,r1⟩:=hargs.cons_inv;obtain⟨w2,us2,q2,e2,r2⟩:=r1.cons_inv;obtain⟨w3,us3,q3,e3,r3⟩:=r2.cons_inv;obtain⟨r,k,q,S,C,t,v,p,rfl,hy,hz,hR,hg,hf,ht,hv,hs⟩:=hs;refine gi (an RM 5 _) (by kernel_rfl) (Lx S C t v p hg hf ht hv) (fun _=>rfl) hr hR (by rw[q1,q2,q3];exact .cons e1 (.cons (hy.open e2 _) (.cons (ba rfl (hz▸e3.mk)) r3))) hk (fun u S' V' C' ⟨e,g,_⟩=>by subst g;exact⟨fun _=>rfl,rfl⟩) fun u S' V' C' ⟨e,g1,g2,g3,g4⟩=>?_
  subst g1 g2 g3;exact hs C' e g4
 ·exact hs.elim
def ua (args:List AV) (H:AH) (n:Nat) (κ:PK):Prop:=match args with
 | [x,y,z]=>∃(r k q:Nat) (S:Sr) (C:Ck5) (a b:Int),x= .ptr r 0/\mk y= .si .i64 a/\mk z= .si .i64 b/\ew H n r k q S (pts C) C/\oc S C/\C.length+ex5 C<=100000/\(ab C).length<=100000/\∀C',ab C'=aO (ab C) a b->Gt S C'->Wh S.sz C'.length C'->κ (.si .i64 ((dlN a b C:Nat):Int)) (fF H n r k q S (pts C') C') (n+1)
 |_=>False
theorem LI:ai 100 ua:=fun args H n κ hs φ h0' hp vs K hr hargs hk=>by
 unfold ua at hs;split at hs
 ·obtain⟨w1,us1,q1,e1,r1⟩:=hargs.cons_inv;obtain⟨w2,us2,q2,e2,r2⟩:=r1.cons_inv;obtain⟨w3,us3,q3,e3,r3⟩:=r2.cons_inv;obtain⟨r,k,q,S,C,a,b,rfl,hy,hz,hR,hp5,hf,hf2,hs⟩:=hs;refine gi (an RS 5 _) (by kernel_rfl) (Ol S C a b hp5 hf hf2) (fun _=>rfl) hr hR (by rw[q1,q2,q3];exact .cons e1 (.cons (ba rfl (hy▸e2.mk)) (.cons (ba rfl (hz▸e3.mk)) r3))) hk (fun u S' V' C' ⟨g,_⟩=>by subst g;exact⟨fun _=>rfl,rfl⟩) fun u S' V' C' ⟨g1,g2,g3,g4,g5,g6⟩=>?_
  subst g1 g2 g3;exact hs C' g4 g5 g6
 ·exact hs.elim
structure nt (S:Sr):Prop where
 ret:0<=S.ret/\S.ret<=1099511627776
 pol:1<=S.pol/\S.pol<=6
 mx: -1<=S.mx/\S.mx<1099511627776
 fl:0<=S.fl/\S.fl<=1099511627776
theorem nt.line {S:Sr} (h:nt S):0<=dg S/\dg S<=1099511627776:=by
 have h1:=h.ret;have h2:=h.mx;have h3:=h.fl;unfold dg;split<;>omega
structure jy (S:Sr) (C:Ck5):Prop where
 gt:Gt S C
 wh:Wh S.sz C.length C
 num:nt S
 few:(ab C).length<=80000
theorem Gd.pf {S:Sr} {C:Ck5} (h:Gd S C):oc S C:=⟨h.lo,h.hi,h.up,h.dW⟩
theorem oc.fl {S:Sr} {C:Ck5} (h:oc S C) (a b c d:Int):oc {S with ret:=a,pol:=b,mx:=c,fl:=d} C:=⟨h.lo,h.hi,h.up,h.dW⟩
def LJ (S:Sr) (L:Smp):Sr×Smp:=({S with fl:=dg S},aO L 0 (dg S-1))
def TmP (S0:Sr) (C0:Ck5):AV->Sr->Ps->Ck5->Prop:=fun u S V C=>u= .tup []/\V=pts C/\(S,ab C)=LJ S0 (ab C0)/\Gt S C/\Wh S.sz C.length C
noncomputable def RW:FuncId->EP:=aV 131 [] (cT 37 (l9 LH) (aw 100 ua evP))
theorem Ox:aW RW:=aq (a8 (ae az LI) Qq (LG _)) (by kernel_rfl) (by kernel_rfl)
theorem LK (S:Sr) (C:Ck5) (hp:oc S C) (hn:nt S) (hf:C.length+ex5 C<=100000) (hf2:(ab C).length<=100000):fG (ax RW 5 131) [.ptr 0 0] (mkH (bH (iG S (pts C) C) 0)) 3 (SP (TmP S C)):=by
 have hlo:=hp.lo;have hln:=hn.line;have hw:IntKind.i64.wrap (dg S-1)=dg S-1:=al (by omega) (by omega);have hp2:=hp.fl S.ret S.pol S.mx (dg S);show ax RW 5 _ _ _ _ _
 conv=>whnf
 refine⟨0,1,2,S,C,_,rfl,⟨⟨by decide,by decide,by decide⟩,⟨by decide,by decide,by decide⟩,rfl,rfl,rfl⟩,⟨rfl,hlo,hn.ret,hn.mx,rfl⟩,?_⟩
 conv=>whnf
 refine⟨0,1,2,{S with fl:=dg S},C,0,dg S-1,rfl,rfl,congrArg (AV.si .i64) hw,⟨⟨by decide,by decide,by decide⟩,⟨by decide,by decide,by decide⟩,rfl,rfl,rfl⟩,hp2,hf,hf2,fun C1 g1 g2 g3=>?_⟩
 conv=>whnf
 exact fu (TmP S C) ⟨rfl,rfl,(by rw[g1];rfl),g2,g3⟩ (VTo.mk5 rfl) (fun φ ψ w h=>jl rfl h) 3 ⟨by decide,by decide⟩ rfl rfl rfl rfl rfl rfl (ah.rw (Nat.le_of_ble_eq_true rfl) rfl) rfl (aA _) rfl
def rb (args:List AV) (H:AH) (n:Nat) (κ:PK):Prop:=match args with
 | [x]=>∃(r k q:Nat) (S:Sr) (C:Ck5),x= .ptr r 0/\ew H n r k q S (pts C) C/\oc S C/\nt S/\C.length+ex5 C<=100000/\(ab C).length<=100000/\∀C',ab C'=aO (ab C) 0 (dg S-1)->Gt {S with fl:=dg S} C'->Wh S.sz C'.length C'->κ (.tup []) (fF H n r k q {S with fl:=dg S} (pts C') C') (n+1)
 |_=>False
theorem F0:ai 131 rb:=fun args H n κ hs φ h0' hp vs K hr hargs hk=>by
 unfold rb at hs;split at hs
 ·obtain⟨w1,us1,q1,e1,r1⟩:=hargs.cons_inv;obtain⟨r,k,q,S,C,rfl,hR,hp5,hn,hf,hf2,hs⟩:=hs;refine gi (an Ox 5 _) (by kernel_rfl) (LK S C hp5 hn hf hf2) (fun _=>rfl) hr hR hargs hk (fun u S' V' C' ⟨g,_⟩=>by subst g;exact⟨fun _=>rfl,rfl⟩) fun u S' V' C' ⟨g1,g2,g3,g4,g5⟩=>?_
  have g6:S'={S with fl:=dg S}:=congrArg Prod.fst g3;have g7:ab C'=aO (ab C) 0 (dg S-1):=congrArg Prod.snd g3;subst g1 g2 g6;exact hs C' g7 g4 g5
 ·exact hs.elim
def il (S:Sr) (L:Smp) (t v p:Int):(Sr×Smp)×Int:=
 if t<0∨1099511627776<=t∨(p≠0/\¬(1<=p/\p<=6))then((S,L),1)
 else if t<dg S then((S,L),7)
 else if(fm L t v (if p=0 then S.pol else p)).2=0 then(LJ {S with mx:=max S.mx t} (fm L t v (if p=0 then S.pol else p)).1,0)
 else((S,L),(fm L t v (if p=0 then S.pol else p)).2)
theorem nt.mxs {S:Sr} (h:nt S) {t:Int} (ht:0<=t/\t<1099511627776):nt {S with mx:=max S.mx t}:=⟨h.ret,h.pol,by have:=h.mx;show-1<=max S.mx t/\max S.mx t<1099511627776;omega,h.fl⟩
theorem nt.tr {S:Sr} (h:nt S):nt {S with fl:=dg S}:=⟨h.ret,h.pol,h.mx,h.line⟩
def AdP (S0:Sr) (C0:Ck5) (t v p:Int):AV->Sr->Ps->Ck5->Prop:=fun u S V C=>∃e:Int,u= .si .i64 e/\V=pts C/\((S,ab C),e)=il S0 (ab C0) t v p/\Gt S C/\Wh S.sz C.length C/\nt S
def RX:DT:=[(5,[(some 0,[4]),(some 0,[31]),(some 0,[0]),(none,[33]),(some 0,[32,34]),(some 0,[35])]),
 (11,[(some 0,[0]),(some 0,[0]),(some 0,[50]),(some 0,[51]),(some 0,[52]),(some 0,[4]),(some 0,[54]),(some 0,[53,55]),(some 0,[49]),(some 0,[57]),(none,[58,56])])]
noncomputable def RY:FuncId->EP:=aV 72 RX (cT 37 (l9 LH) (aw 130 zt (aw 131 rb (aw 132 tZ evP))))
theorem Oy:aW RY:=aq (a8 (ae (ae (ae az LB) F0) RV) Qq (LG _)) (by kernel_rfl) (by kernel_rfl)
theorem LL (S:Sr) (C:Ck5) (t v p:Int) (h5:jy S C) (hv:aN v) (hf:(ab C).length<=40000):fG (ax RY 5 72) [.ptr 0 0,.agg [.si .i64 t,.si .i64 v],.si .i64 p] (mkH (bH (iG S (pts C) C) 0)) 3 (SP (AdP S C t v p)):=by
 have hg:=h5.gt;have hn:=h5.num;have hwh:=h5.wh;have hlo:=hg.lo;obtain⟨q,hq⟩:∃q,(if p=0 then S.pol else p)=q:=⟨_,rfl⟩;have e1:t<0∨1099511627776<=t∨(p≠0/\¬(1<=p/\p<=6))->AdP S C t v p (.si .i64 1) S (pts C) C:=fun k=>⟨1,rfl,rfl,by unfold il;rw[if_pos k],hg,hwh,hn⟩
 have e7:¬(t<0∨1099511627776<=t∨(p≠0/\¬(1<=p/\p<=6)))->t<dg S->AdP S C t v p (.si .i64 7) S (pts C) C:=fun k1 k2=>⟨7,rfl,rfl,by unfold il;rw[if_neg k1,if_pos k2],hg,hwh,hn⟩
 have okA:¬(t<0∨1099511627776<=t∨(p≠0/\¬(1<=p/\p<=6)))->¬t<dg S->∀C1 e,D6 S C C1 t v q e->C1.length<=100000/\C1.length+ex5 C1<=100000/\(ab C1).length<=100000/\(e=0->∀C2 C3,ab C2=aO (ab C1) 0 (dg {S with mx:=max S.mx t}-1)->ab C3=ab C2->Gt {S with mx:=max S.mx t,fl:=dg {S with mx:=max S.mx t}} C3->Wh S.sz C3.length C3->AdP S C t v p (.si .i64 e) {S with mx:=max S.mx t,fl:=dg {S with mx:=max S.mx t}} (pts C3) C3)/\(e≠0->∀C3,ab C3=ab C1->Gt S C3->Wh S.sz C3.length C3->AdP S C t v p (.si .i64 e) S (pts C3) C3):=fun k1 k2 C1 e hp=>by
  have hl1:=(vH (ab C) t v q).1;rw[<-hp.fl]at hl1;have hl2:=D5 hp.gd.ne;have hl3:=zq C1;have herr:=hp.err;have hfl:=hp.fl;refine⟨by omega,by omega,by omega,fun he C2 C3 f2 f3 g3 w3=>?_,fun he C3 f3 g3 w3=>?_⟩
  ·refine⟨e,rfl,rfl,?_,g3,w3,(hn.mxs (t:=t) ⟨by omega,by omega⟩).tr⟩;unfold il;rw[if_neg k1,if_neg k2,hq,<-herr,if_pos he,f3,f2,hfl,he];rfl
  ·refine⟨e,rfl,rfl,?_,g3,w3,hn⟩;have hne:(fm (ab C) t v q).2≠0:=by rw[<-herr];exact he
   unfold il;rw[if_neg k1,if_neg k2,hq,if_neg hne,f3,hfl,BQ hne,<-herr]
 show ax RY 5 _ _ _ _ _
 conv=>whnf
 refine ag.dh (fun z=>absurd (show(0:Int)<(S.sz:Int) by omega) z) (fun _=>?_)
 conv=>whnf
 refine ag.dec (fun z1=>?_) (fun z1=>?_)
 focus
  have r:=e1 (.inl z1)
  conv=>whnf
  exact fu (AdP S C t v p) r (VTo.mk5 rfl) VR.eJ 1 ⟨by decide,by decide⟩ rfl rfl rfl rfl rfl rfl (ah.rw (Nat.le_of_ble_eq_true rfl) rfl) rfl (aA _) rfl
 conv=>whnf
 refine ag.dec (fun z2=>?_) (fun z2=>?_)
 focus
  have r:=e1 (.inr (.inl z2))
  conv=>whnf
  exact fu (AdP S C t v p) r (VTo.mk5 rfl) VR.eJ 1 ⟨by decide,by decide⟩ rfl rfl rfl rfl rfl rfl (ah.rw (Nat.le_of_ble_eq_true rfl) rfl) rfl (aA _) rfl
 conv=>whnf
 refine ag.dh (fun z3=>?_) (fun z3=>?_)
 focus
  conv=>whnf
  refine ag.dec (fun z4=>?_) (fun z4=>?_)
  focus
   conv=>whnf
   refine ag.dh (fun z5=>?_) (fun z5=>?_)
   focus
    have r:=e1 (.inr (.inr ⟨z3,fun k=>z5 k.2⟩))
    conv=>whnf
    exact fu (AdP S C t v p) r (VTo.mk5 rfl) VR.eJ 1 ⟨by decide,by decide⟩ rfl rfl rfl rfl rfl rfl (ah.rw (Nat.le_of_ble_eq_true rfl) rfl) rfl (aA _) rfl
   have hpq:p=q:=by rw[<-hq,if_neg z3]
   have k1:¬(t<0∨1099511627776<=t∨(p≠0/\¬(1<=p/\p<=6))):=fun k=>by
    rcases k with k|k|k
    ·exact z1 k
    ·exact z2 k
    ·exact k.2 ⟨z4,z5⟩
   conv=>whnf
   refine⟨0,1,2,S,C,_,rfl,⟨⟨by decide,by decide,by decide⟩,⟨by decide,by decide,by decide⟩,rfl,rfl,rfl⟩,⟨rfl,hlo,hn.ret,hn.mx,rfl⟩,?_⟩
   conv=>whnf
   refine ag.dec (fun z6=>?_) (fun z6=>?_)
   focus
    have r:=e7 k1 z6
    conv=>whnf
    exact fu (AdP S C t v p) r (VTo.mk5 rfl) VR.eJ 1 ⟨by decide,by decide⟩ rfl rfl rfl rfl rfl rfl (ah.rw (Nat.le_of_ble_eq_true rfl) rfl) rfl (aA _) rfl
   have ht:0<=t/\t<1099511627776:=⟨by omega,by omega⟩;have okB:=okA k1 z6
   conv=>whnf
   refine ag.dec (fun z7=>absurd z7 z3) (fun _=>?_)
   conv=>whnf
   refine⟨0,1,2,S,C,t,v,q,rfl,⟨_,_,rfl,rfl,rfl⟩,congrArg (AV.si .i64) hpq,⟨⟨by decide,by decide,by decide⟩,⟨by decide,by decide,by decide⟩,rfl,rfl,rfl⟩,hg.gd,by omega,ht,hv,fun C1 e hp5=>?_⟩;have ok:=okB C1 e hp5;have pf:=hp5.gd.pf;have pr:=hp5.gd.pre
   conv=>whnf
   refine ag.dec (fun z8=>?_) (fun z8=>?_)
   focus
    conv=>whnf
    refine⟨0,4,2,{S with mx:=max S.mx t},C1,rfl,⟨⟨by decide,by decide,by decide⟩,⟨by decide,by decide,by decide⟩,rfl,rfl,rfl⟩,pf.fl S.ret S.pol (max S.mx t) S.fl,hn.mxs ht,ok.2.1,ok.2.2.1,fun C2 f2 g2 w2=>?_⟩;have gp:=g2.toPre5
    conv=>whnf
    refine⟨0,5,2,{S with mx:=max S.mx t,fl:=dg {S with mx:=max S.mx t}},C2,rfl,⟨⟨by decide,by decide,by decide⟩,⟨by decide,by decide,by decide⟩,rfl,rfl,rfl⟩,gp,by have h1:=vF g2.all;have h2:=ok.2.2.1;have h3:(aO (ab C1) 0 (dg {S with mx:=max S.mx t}-1)).length<=(ab C1).length:=List.length_filter_le _ _;rw[f2]at h1;omega,fun C3 f3 g3 w3=>?_⟩;have r:=ok.2.2.2.1 z8 C2 C3 f2 f3 g3 w3
    conv=>whnf
    exact fu (AdP S C t v p) r (VTo.mk5 rfl) VR.eJ 6 ⟨by decide,by decide⟩ rfl rfl rfl rfl rfl rfl (ah.rw (Nat.le_of_ble_eq_true rfl) rfl) rfl (aA _) rfl
   conv=>whnf
   refine⟨0,4,2,S,C1,rfl,⟨⟨by decide,by decide,by decide⟩,⟨by decide,by decide,by decide⟩,rfl,rfl,rfl⟩,pr,ok.1,fun C3 f3 g3 w3=>?_⟩;have r:=ok.2.2.2.2 z8 C3 f3 g3 w3
   conv=>whnf
   exact fu (AdP S C t v p) r (VTo.mk5 rfl) VR.eJ 5 ⟨by decide,by decide⟩ rfl rfl rfl rfl rfl rfl (ah.rw (Nat.le_of_ble_eq_true rfl) rfl) rfl (aA _) rfl
  have r:=e1 (.inr (.inr ⟨z3,fun k=>z4 k.1⟩))
  conv=>whnf
  exact fu (AdP S C t v p) r (VTo.mk5 rfl) VR.eJ 1 ⟨by decide,by decide⟩ rfl rfl rfl rfl rfl rfl (ah.rw (Nat.le_of_ble_eq_true rfl) rfl) rfl (aA _) rfl
 have hpq:S.pol=q:=by rw[<-hq,if_pos z3]
 have k1:¬(t<0∨1099511627776<=t∨(p≠0/\¬(1<=p/\p<=6))):=fun k=>by
  rcases k with k|k|k
  ·exact z1 k
  ·exact z2 k
  ·exact k.1 z3
 conv=>whnf
 refine⟨0,1,2,S,C,_,rfl,⟨⟨by decide,by decide,by decide⟩,⟨by decide,by decide,by decide⟩,rfl,rfl,rfl⟩,⟨rfl,hlo,hn.ret,hn.mx,rfl⟩,?_⟩
 conv=>whnf
 refine ag.dec (fun z6=>?_) (fun z6=>?_)
 focus
  have r:=e7 k1 z6
  conv=>whnf
  exact fu (AdP S C t v p) r (VTo.mk5 rfl) VR.eJ 1 ⟨by decide,by decide⟩ rfl rfl rfl rfl rfl rfl (ah.rw (Nat.le_of_ble_eq_true rfl) rfl) rfl (aA _) rfl
 have ht:0<=t/\t<1099511627776:=⟨by omega,by omega⟩;have okB:=okA k1 z6
 conv=>whnf
 refine ag.dec (fun _=>?_) (fun z7=>absurd z3 z7)
 conv=>whnf
 refine⟨0,1,2,S,C,t,v,q,rfl,⟨_,_,rfl,rfl,rfl⟩,congrArg (AV.si .i64) hpq,⟨⟨by decide,by decide,by decide⟩,⟨by decide,by decide,by decide⟩,rfl,rfl,rfl⟩,hg.gd,by omega,ht,hv,fun C1 e hp5=>?_⟩;have ok:=okB C1 e hp5;have pf:=hp5.gd.pf;have pr:=hp5.gd.pre
 conv=>whnf
 refine ag.dec (fun z8=>?_) (fun z8=>?_)
 focus
  conv=>whnf
  refine⟨0,4,2,{S with mx:=max S.mx t},C1,rfl,⟨⟨by decide,by decide,by decide⟩,⟨by decide,by decide,by decide⟩,rfl,rfl,rfl⟩,pf.fl S.ret S.pol (max S.mx t) S.fl,hn.mxs ht,ok.2.1,ok.2.2.1,fun C2 f2 g2 w2=>?_⟩;have gp:=g2.toPre5
  conv=>whnf
  refine⟨0,5,2,{S with mx:=max S.mx t,fl:=dg {S with mx:=max S.mx t}},C2,rfl,⟨⟨by decide,by decide,by decide⟩,⟨by decide,by decide,by decide⟩,rfl,rfl,rfl⟩,gp,by have h1:=vF g2.all;have h2:=ok.2.2.1;have h3:(aO (ab C1) 0 (dg {S with mx:=max S.mx t}-1)).length<=(ab C1).length:=List.length_filter_le _ _;rw[f2]at h1;omega,fun C3 f3 g3 w3=>?_⟩;have r:=ok.2.2.2.1 z8 C2 C3 f2 f3 g3 w3
  conv=>whnf
  exact fu (AdP S C t v p) r (VTo.mk5 rfl) VR.eJ 6 ⟨by decide,by decide⟩ rfl rfl rfl rfl rfl rfl (ah.rw (Nat.le_of_ble_eq_true rfl) rfl) rfl (aA _) rfl
 conv=>whnf
 refine⟨0,4,2,S,C1,rfl,⟨⟨by decide,by decide,by decide⟩,⟨by decide,by decide,by decide⟩,rfl,rfl,rfl⟩,pr,ok.1,fun C3 f3 g3 w3=>?_⟩;have r:=ok.2.2.2.2 z8 C3 f3 g3 w3
 conv=>whnf
 exact fu (AdP S C t v p) r (VTo.mk5 rfl) VR.eJ 5 ⟨by decide,by decide⟩ rfl rfl rfl rfl rfl rfl (ah.rw (Nat.le_of_ble_eq_true rfl) rfl) rfl (aA _) rfl
def zu (args:List AV) (H:AH) (n:Nat) (κ:PK):Prop:=match args with
 | [x,y,z]=>∃(r k q:Nat) (S:Sr) (C:Ck5) (t v p:Int),x= .ptr r 0/\mR y t v/\mk z= .si .i64 p/\ew H n r k q S (pts C) C/\jy S C/\aN v/\(ab C).length<=40000/\∀C',ab C'=(il S (ab C) t v p).1.2->Gt (il S (ab C) t v p).1.1 C'->Wh (il S (ab C) t v p).1.1.sz C'.length C'->nt (il S (ab C) t v p).1.1->κ (.si .i64 (il S (ab C) t v p).2) (fF H n r k q (il S (ab C) t v p).1.1 (pts C') C') (n+1)
 |_=>False
theorem RZ:ai 72 zu:=fun args H n κ hs φ h0' hp vs K hr hargs hk=>by
 unfold zu at hs;split at hs
 ·obtain⟨w1,us1,q1,e1,r1⟩:=hargs.cons_inv;obtain⟨w2,us2,q2,e2,r2⟩:=r1.cons_inv;obtain⟨w3,us3,q3,e3,r3⟩:=r2.cons_inv;obtain⟨r,k,q,S,C,t,v,p,rfl,hy,hz,hR,h5,hv,hf,hs⟩:=hs;refine gi (an Oy 5 _) (by kernel_rfl) (LL S C t v p h5 hv hf) (fun _=>rfl) hr hR (by rw[q1,q2,q3];exact .cons e1 (.cons (hy.open e2 _) (.cons (ba rfl (hz▸e3.mk)) r3))) hk (fun u S' V' C' ⟨e,g,_⟩=>by subst g;exact⟨fun _=>rfl,rfl⟩) fun u S' V' C' ⟨e,g1,g2,g3,g4,g5,g6⟩=>?_
  have d1:S'=(il S (ab C) t v p).1.1:=congrArg (fun x=>x.1.1) g3;have d2:ab C'=(il S (ab C) t v p).1.2:=congrArg (fun x=>x.1.2) g3;have d3:e=(il S (ab C) t v p).2:=congrArg (fun x=>x.2) g3;subst g1 g2 d3;rw[d1]at g4 g5 g6;rw[d1];exact hs C' d2 g4 g5 g6
 ·exact hs.elim
def oe (S:Sr) (L:Smp) (ret p:Int):(Sr×Smp)×Int:=if(0<=ret/\ret<=1099511627776)/\1<=p/\p<=6 then(LJ {S with ret:=ret,pol:=p} L,0)else((S,L),1)
def AlP (S0:Sr) (C0:Ck5) (ret p:Int):AV->Sr->Ps->Ck5->Prop:=fun u S V C=>∃e:Int,u= .si .i64 e/\V=pts C/\((S,ab C),e)=oe S0 (ab C0) ret p/\Gt S C/\Wh S.sz C.length C/\nt S
noncomputable def R0:FuncId->EP:=aV 108 [] (aw 131 rb evP)
theorem Oz:aW R0:=aq (ae az F0) (by kernel_rfl) (by kernel_rfl)
theorem Ec (S:Sr) (C:Ck5) (ret p:Int) (h5:jy S C) (hf:(ab C).length<=40000):fG (ax R0 5 108) [.ptr 0 0,.si .i64 ret,.si .i64 p] (mkH (bH (iG S (pts C) C) 0)) 3 (SP (AlP S C ret p)):=by
 have hg:=h5.gt;have hn:=h5.num;have hwh:=h5.wh;have hlo:=hg.lo;have h2:=hg.few;have h3:=zq C;have pf:=hg.gd.pf;have e1:¬((0<=ret/\ret<=1099511627776)/\1<=p/\p<=6)->AlP S C ret p (.si .i64 1) S (pts C) C:=fun k=>⟨1,rfl,rfl,by unfold oe;rw[if_neg k],hg,hwh,hn⟩
 have okA:((0<=ret/\ret<=1099511627776)/\1<=p/\p<=6)->nt {S with ret:=ret,pol:=p}/\∀C2,ab C2=aO (ab C) 0 (dg {S with ret:=ret,pol:=p}-1)->Gt {S with ret:=ret,pol:=p,fl:=dg {S with ret:=ret,pol:=p}} C2->Wh S.sz C2.length C2->AlP S C ret p (.si .i64 0) {S with ret:=ret,pol:=p,fl:=dg {S with ret:=ret,pol:=p}} (pts C2) C2:=fun k=>by
  have hn2:nt {S with ret:=ret,pol:=p}:=⟨k.1,k.2,hn.mx,hn.fl⟩;refine⟨hn2,fun C2 f2 g2 w2=>⟨0,rfl,rfl,?_,g2,w2,hn2.tr⟩⟩;unfold oe;rw[if_pos k,f2];rfl
 show ax R0 5 _ _ _ _ _
 conv=>whnf
 refine ag.dh (fun z=>absurd (show(0:Int)<(S.sz:Int) by omega) z) (fun _=>?_)
 conv=>whnf
 refine ag.dec (fun z1=>?_) (fun z1=>?_)
 focus
  conv=>whnf
  refine ag.dec (fun z2=>?_) (fun z2=>?_)
  focus
   conv=>whnf
   refine ag.dec (fun z3=>?_) (fun z3=>?_)
   focus
    conv=>whnf
    refine ag.dh (fun z4=>?_) (fun z4=>?_)
    focus
     have r:=e1 (fun k=>z4 k.2.2)
     conv=>whnf
     exact fu (AlP S C ret p) r (VTo.mk5 rfl) VR.eJ 1 ⟨by decide,by decide⟩ rfl rfl rfl rfl rfl rfl (ah.rw (Nat.le_of_ble_eq_true rfl) rfl) rfl (aA _) rfl
    have ok:=okA ⟨⟨z1,z2⟩,z3,z4⟩
    conv=>whnf
    refine⟨0,1,2,{S with ret:=ret,pol:=p},C,rfl,⟨⟨by decide,by decide,by decide⟩,⟨by decide,by decide,by decide⟩,rfl,rfl,rfl⟩,pf.fl ret p S.mx S.fl,ok.1,by omega,by omega,fun C2 f2 g2 w2=>?_⟩;have r:=ok.2 C2 f2 g2 w2
    conv=>whnf
    exact fu (AlP S C ret p) r (VTo.mk5 rfl) VR.eJ 3 ⟨by decide,by decide⟩ rfl rfl rfl rfl rfl rfl (ah.rw (Nat.le_of_ble_eq_true rfl) rfl) rfl (aA _) rfl
   have r:=e1 (fun k=>z3 k.2.1)
   conv=>whnf
   exact fu (AlP S C ret p) r (VTo.mk5 rfl) VR.eJ 1 ⟨by decide,by decide⟩ rfl rfl rfl rfl rfl rfl (ah.rw (Nat.le_of_ble_eq_true rfl) rfl) rfl (aA _) rfl
  have r:=e1 (fun k=>z2 k.1.2)
  conv=>whnf
  exact fu (AlP S C ret p) r (VTo.mk5 rfl) VR.eJ 1 ⟨by decide,by decide⟩ rfl rfl rfl rfl rfl rfl (ah.rw (Nat.le_of_ble_eq_true rfl) rfl) rfl (aA _) rfl
 have r:=e1 (fun k=>z1 k.1.1)
 conv=>whnf
 exact fu (AlP S C ret p) r (VTo.mk5 rfl) VR.eJ 1 ⟨by decide,by decide⟩ rfl rfl rfl rfl rfl rfl (ah.rw (Nat.le_of_ble_eq_true rfl) rfl) rfl (aA _) rfl
def zv (args:List AV) (H:AH) (n:Nat) (κ:PK):Prop:=match args with
 | [x,y,z]=>∃(r k q:Nat) (S:Sr) (C:Ck5) (ret p:Int),x= .ptr r 0/\mk y= .si .i64 ret/\mk z= .si .i64 p/\ew H n r k q S (pts C) C/\jy S C/\(ab C).length<=40000/\∀C',ab C'=(oe S (ab C) ret p).1.2->Gt (oe S (ab C) ret p).1.1 C'->Wh (oe S (ab C) ret p).1.1.sz C'.length C'->nt (oe S (ab C) ret p).1.1->κ (.si .i64 (oe S (ab C) ret p).2) (fF H n r k q (oe S (ab C) ret p).1.1 (pts C') C') (n+1)
 |_=>False
theorem R1:ai 108 zv:=fun args H n κ hs φ h0' hp vs K hr hargs hk=>by
 unfold zv at hs;split at hs
 ·obtain⟨w1,us1,q1,e1,r1⟩:=hargs.cons_inv;obtain⟨w2,us2,q2,e2,r2⟩:=r1.cons_inv;obtain⟨w3,us3,q3,e3,r3⟩:=r2.cons_inv;obtain⟨r,k,q,S,C,ret,p,rfl,hy,hz,hR,h5,hf,hs⟩:=hs;refine gi (an Oz 5 _) (by kernel_rfl) (Ec S C ret p h5 hf) (fun _=>rfl) hr hR (by rw[q1,q2,q3];exact .cons e1 (.cons (ba rfl (hy▸e2.mk)) (.cons (ba rfl (hz▸e3.mk)) r3))) hk (fun u S' V' C' ⟨e,g,_⟩=>by subst g;exact⟨fun _=>rfl,rfl⟩) fun u S' V' C' ⟨e,g1,g2,g3,g4,g5,g6⟩=>?_
  have d1:S'=(oe S (ab C) ret p).1.1:=congrArg (fun x=>x.1.1) g3;have d2:ab C'=(oe S (ab C) ret p).1.2:=congrArg (fun x=>x.1.2) g3;have d3:e=(oe S (ab C) ret p).2:=congrArg (fun x=>x.2) g3;subst g1 g2 d3;rw[d1]at g4 g5 g6;rw[d1];exact hs C' d2 g4 g5 g6
 ·exact hs.elim
def oZ (sz ret p:Int):Option Sr:=if(128<=sz/\sz<=4096)/\(0<=ret/\ret<=1099511627776)/\1<=p/\p<=6 then some ⟨sz.toNat,ret,p,-1,0⟩else none
noncomputable def vM (H:AH) (n:Nat) (S:Sr):AH:=((H.set (some (.cells (cR S (n+1) 0) true)) aa n).set (some (.cells [] true)) aa (n+1)).set (some (di S [])) aa (n+2)
def zw (args:List AV) (H:AH) (n:Nat) (κ:PK):Prop:=match args with
 | [x,y,z]=>∃(sz ret p:Int),mk x= .si .i64 sz/\mk y= .si .i64 ret/\mk z= .si .i64 p/\n<900000/\(oZ sz ret p=none->κ (.tup [.nil,.int .i64 1]) H n)/\∀S,oZ sz ret p=some S->κ (.tup [.ptr n 0,.int .i64 0]) (vM H n S) (n+3)
 |_=>False
noncomputable def Ug:FuncId->EP:=aV 104 [] evP
theorem OA:aW Ug:=aq az (by kernel_rfl) (by kernel_rfl)
def NwQ (sz ret p:Int):PK:=fun u H' n'=>(oZ sz ret p=none/\u= .tup [.nil,.int .i64 1]/\H'=mkH []/\n'=0)∨∃S,oZ sz ret p=some S/\u= .tup [.ptr 0 0,.int .i64 0]/\H'=mkH [(0,.cells [.si .i64 sz,.si .i64 ret,.si .i64 p,.int .i64 (-1),.int .i64 0,.nsl] true)]/\n'=1
theorem LM (sz ret p:Int):ax Ug 5 104 [.si .i64 sz,.si .i64 ret,.si .i64 p] (mkH (bH [] 0)) 0 (NwQ sz ret p):=by
 have e1:¬((128<=sz/\sz<=4096)/\(0<=ret/\ret<=1099511627776)/\1<=p/\p<=6)->NwQ sz ret p (.tup [.nil,.int .i64 1]) (mkH []) 0:=fun k=> .inl ⟨if_neg k,rfl,rfl,rfl⟩
 have e2:((128<=sz/\sz<=4096)/\(0<=ret/\ret<=1099511627776)/\1<=p/\p<=6)->NwQ sz ret p (.tup [.ptr 0 0,.int .i64 0]) (mkH [(0,.cells [.si .i64 sz,.si .i64 ret,.si .i64 p,.int .i64 (-1),.int .i64 0,.nsl] true)]) 1:=fun k=> .inr ⟨_,if_pos k,rfl,rfl,rfl⟩
 conv=>whnf
 refine ag.dec (fun z1=>?_) (fun z1=>?_)
 focus
  have r:=e1 (fun k=>absurd k.1.1 (by omega))
  conv=>whnf
  exact r
 conv=>whnf
 refine ag.dec (fun z2=>?_) (fun z2=>?_)
 focus
  have r:=e1 (fun k=>absurd k.1.2 (by omega))
  conv=>whnf
  exact r
 conv=>whnf
 refine ag.dec (fun z3=>?_) (fun z3=>?_)
 focus
  conv=>whnf
  refine ag.dec (fun z4=>?_) (fun z4=>?_)
  focus
   conv=>whnf
   refine ag.dec (fun z5=>?_) (fun z5=>?_)
   focus
    conv=>whnf
    refine ag.dh (fun z6=>?_) (fun z6=>?_)
    focus
     have r:=e1 (fun k=>z6 k.2.2.2)
     conv=>whnf
     exact r
    have r:=e2 ⟨⟨by omega,by omega⟩,⟨z3,z4⟩,z5,z6⟩
    conv=>whnf
    exact r
   have r:=e1 (fun k=>z5 k.2.2.1)
   conv=>whnf
   exact r
  have r:=e1 (fun k=>z4 k.2.1.2)
  conv=>whnf
  exact r
 have r:=e1 (fun k=>z3 k.2.1.1)
 conv=>whnf
 exact r
theorem B9 {A B:AH} {v:Option AO} {n:Nat} (hn:n<1000000) (h:∀x o,A.get x=some o->B.get x=some o):∀x o,(PM.set v aa A n).get x=some o->(PM.set v aa B n).get x=some o:=fun x o hx=>by
 rcases PM.aj aa A n x o hx with⟨rfl,h2⟩|⟨h1,h2⟩
 ·rw[PM.geq hn];exact h2
 ·exact PM.gne hn h1 (h x o h2)
theorem R2:ai 104 zw:=fun args H n κ hs φ h0' hp vs K hr hargs hk=>by
 unfold zw at hs;split at hs
 ·obtain⟨w1,us1,q1,e1,r1⟩:=hargs.cons_inv;obtain⟨w2,us2,q2,e2,r2⟩:=r1.cons_inv;obtain⟨w3,us3,q3,e3,r3⟩:=r2.cons_inv;obtain⟨sz,ret,p,hx,hy,hz,hn,hs0,hs1⟩:=hs;refine dy (S:=[]) (O:=[]) (args0:=[.si .i64 sz,.si .i64 ret,.si .i64 p]) (κ:=fun v H2 n2=>(oZ sz ret p=none/\v= .tup [.nil,.int .i64 1]/\H2=H/\n2=n)∨∃S,oZ sz ret p=some S/\v= .tup [.ptr n 0,.int .i64 0]/\H2=H.set (some (.cells [.si .i64 sz,.si .i64 ret,.si .i64 p,.int .i64 (-1),.int .i64 0,.nsl] true)) aa n/\n2=n+1) (an OA 5 _) (by kernel_rfl) hr ⟨List.nodup_nil,rfl,fun i s o h1 h2=>by simp at h1⟩ (by rw[q1,q2,q3];exact .cons (ba rfl (hx▸e1.mk)) (.cons (ba rfl (hy▸e2.mk)) (.cons (ba rfl (hz▸e3.mk)) r3))) ?_ (LM sz ret p) fun u H' n' hq=>?_
  ·intro χ v H2 n2 u g hle hg hu hq;rcases hq with⟨g0,g1,g2,g3⟩|⟨S,g0,g1,g2,g3⟩
   ·subst g1 g2 g3;exact hk χ _ _ _ u g hle hg hu (hs0 g0)
   ·subst g1 g2 g3
    have hS:(sz=(S.sz:Int)/\ret=S.ret/\p=S.pol)/\S.mx= -1/\S.fl=0:=by
     unfold oZ at g0;split at g0
     ·rename_i k;injection g0 with g0;subst g0;exact⟨⟨by show sz=((sz.toNat:Nat):Int);omega,rfl,rfl⟩,rfl,rfl⟩
     ·cases g0
    have hb:=PM.geq (v:=some (AO.cells [AV.si .i64 sz,.si .i64 ret,.si .i64 p,.int .i64 (-1),.int .i64 0,.nsl] true)) (t:=H) (n:=n) (by omega);obtain⟨⟨t1,t2,t3⟩,t4,t5⟩:=hS
    have h1:=hg.Ku (l':=cR S (n+1) 0) hb rfl fun i a' hi=>by
     match i with
     |0=>simp[cR]at hi;subst hi;exact⟨_,rfl,fun v hv=>t1▸hv⟩
     |1=>simp[cR]at hi;subst hi;exact⟨_,rfl,fun v hv=>t2▸hv⟩
     |2=>simp[cR]at hi;subst hi;exact⟨_,rfl,fun v hv=>t3▸hv⟩
     |3=>simp[cR]at hi;subst hi;exact⟨_,rfl,fun v hv=>t4▸hv.mk⟩
     |4=>simp[cR]at hi;subst hi;exact⟨_,rfl,fun v hv=>t5▸hv.mk⟩
     |5=>simp[cR]at hi;subst hi;exact⟨_,rfl,fun v hv=>by rw[hv.cP];exact .rwn⟩
     |i+6=>simp[cR]at hi
    obtain⟨ψ,l1,h3⟩:=(h1.yV (o:= .cells [] true) rfl).TH
    have h4:=h3.less (H:=vM H n S) fun x o hx=>B9 (by omega) (B9 (by omega) fun x o hx=>by
     rcases PM.aj aa H n x o hx with⟨rfl,h2⟩|⟨h1,h2⟩
     ·rw[PM.geq (by omega)];exact h2
     ·exact PM.gne (by omega) h1 (PM.gne (by omega) h1 h2)) x o hx
    exact hk ψ _ _ _ u g (hle.trans l1) h4 (VR.mono l1 _ _ hu) (hs1 S g0)
  ·rcases hq with⟨g0,g1,g2,g3⟩|⟨S,g0,g1,g2,g3⟩
   ·subst g1 g2 g3;exact⟨0,H,Nat.le_refl _,fq.same fun i s o h3 h4 _=>by simp at h3,rfl,.inl ⟨g0,rfl,rfl,rfl⟩⟩
   ·subst g1 g2 g3;refine⟨1,jI [] n H [(0,some (.cells [.si .i64 sz,.si .i64 ret,.si .i64 p,.int .i64 (-1),.int .i64 0,.nsl] true))],Nat.zero_le _,fq.put (Nat.zero_le _) rfl (fun x hx o ho=>?_),rfl,.inr ⟨S,g0,rfl,rfl,rfl⟩⟩;simp only[List.mem_cons,List.not_mem_nil,or_false]at hx;subst hx;injection ho with ho;subst ho;exact⟨rfl,rfl,rfl⟩
 ·exact hs.elim
end Go.Proofs.YtflehenfikoniaaGreat
namespace Go.Proofs.YtflehenfikoniaaGreat
open Go Go.RowKit
section
variable {φ:Ph} {H:AH} {n:Nat} {h0 h g hb h1:Hp} {b:Nat} {S S':Nat->Prop} {Q Q':HP} {σ:AE} {ρ:Env}
theorem HR.oZ (hr:HR φ H n h0 h) (hQ:Q.P φ.z S h) (hS:∀B,S B->(B<h.n/\h0.f B=none)/\(∀b' o' p',H.get b'=some o'->o'.own=true->φ b'=some p'->p'.B≠B)/\(∀q,φ.z q->q.B≠B)/\∀b' Q',H.get b'=some (.sep Q')->¬φ.s b' B):
 PLe φ ⟨φ.f,φ.z,φ.y,fun x=>if x=n then S else φ.s x⟩/\HR ⟨φ.f,φ.z,φ.y,fun x=>if x=n then S else φ.s x⟩ (H.set (some (.sep Q)) aa n) (n+1) h0 h:=by
 have cs:∀x o,(H.set (some (.sep Q)) aa n).get x=some o->(x=n/\o= .sep Q)∨(x≠n/\H.get x=some o):=fun x o hx=>by
  rcases PM.aj aa H n x o hx with⟨h1,h2⟩|h2
  ·injection h2 with h2;exact .inl ⟨h1,h2.symm⟩
  ·exact .inr h2
 have hno:φ n=none:=by
  cases e:φ n with
  |none=>rfl
  |some q=>exact absurd (hr.dom n q e).1 (Nat.lt_irrefl _)
 let ψ:Ph:=⟨φ.f,φ.z,φ.y,fun x=>if x=n then S else φ.s x⟩
 have own:∀x o q,(H.set (some (.sep Q)) aa n).get x=some o->φ x=some q->H.get x=some o:=fun x o q hx hq=>by
  rcases cs x o hx with⟨rfl,_⟩|⟨_,h3⟩
  ·rw[hno]at hq;cases hq
  ·exact h3
 have sle:SLe φ ψ:=⟨fun _ _ h=>h,fun _ h=>h⟩;refine⟨⟨fun _ _ h=>h,fun _ h=>h,fun _ h=>h⟩,⟨fun x q hx=>⟨by have:=(hr.dom x q hx).1;omega,(hr.dom x q hx).2⟩,fun x o hx=>?_,fun x y o o' q q' hx hy ho ho' hq hq' e=>hr.inj x y o o' q q' (own x o q hx hq) (own y o' q' hy hq') ho ho' hq hq' e,hr.base,hr.size,fun q hq=>⟨⟨FzR.mono (φ:=φ) (ψ:=ψ) sle.z (hr.frz q hq).1.1,(hr.frz q hq).1.2⟩,fun x o px hx ho hpx=>(hr.frz q hq).2 x o px (own x o px hx hpx) ho hpx⟩,fun x Q2 hx=>?_⟩⟩
 ·rcases cs x o hx with⟨rfl,rfl⟩|⟨_,h4⟩
  ·exact .inl ⟨hno,rfl⟩
  ·rcases hr.live x o h4 with g|⟨q,ob,g1,g2,g3,g4⟩
   ·exact .inl g
   ·exact .inr ⟨q,ob,g1,g2,g3,g4.cO sle⟩
 ·rcases cs x _ hx with⟨rfl,h2⟩|⟨h1,h4⟩
  ·injection h2 with h2;subst h2;have es:ψ.s x=S:=if_pos rfl
   show Q2.P φ.z (ψ.s x) h/\_;rw[es];refine⟨hQ,fun B hB=>?_⟩;obtain⟨k1,k2,k3,k4⟩:=hS B hB;refine⟨k1,fun y o q hy ho hq=>k2 y o q (own y o q hy hq) ho hq,k3,fun y Q4 hy hne hs=>?_⟩;rcases cs y _ hy with⟨q1,_⟩|⟨q1,q4⟩
   ·exact hne q1
   ·have:ψ.s y=φ.s y:=if_neg q1;rw[this]at hs;exact k4 y Q4 q4 hs
  ·obtain⟨g0,g⟩:=hr.sep x Q2 h4;have es:ψ.s x=φ.s x:=if_neg h1;show Q2.P φ.z (ψ.s x) h/\_;rw[es];refine⟨g0,fun X hX=>?_⟩;obtain⟨g1,g2,g3,g4⟩:=g X hX;refine⟨g1,fun y o q hy ho hq=>g2 y o q (own y o q hy hq) ho hq,g3,fun y Q4 hy hne hs=>?_⟩;rcases cs y _ hy with⟨rfl,_⟩|⟨q1,q4⟩
   ·have:ψ.s y=S:=if_pos rfl
    rw[this]at hs;exact(hS X hs).2.2.2 x Q2 h4 hX
   ·have:ψ.s y=φ.s y:=if_neg q1;rw[this]at hs;exact g4 y Q4 q4 hne hs
theorem HR.Qr (hr:HR φ H n h0 h) (hbb:H.get b=some (.sep Q)) (hw:Wf h) (hn:h.n<=g.n) (hg:∀B o,h.f B=some o->¬φ.s b B->g.f B=some o) (hS:∀B,S' B->B<g.n/\(φ.s b B∨h.f B=none)) (hQ:Q'.P φ.z S' g):
 HR ⟨φ.f,φ.z,φ.y,fun x=>if x=b then S' else φ.s x⟩ (H.set (some (.sep Q')) aa b) n h0 g:=by
 have cs:∀x o,(H.set (some (.sep Q')) aa b).get x=some o->(x=b/\o= .sep Q')∨(x≠b/\H.get x=some o):=fun x o hx=>by
  rcases PM.aj aa H b x o hx with⟨h1,h2⟩|h2
  ·injection h2 with h2;exact .inl ⟨h1,h2.symm⟩
  ·exact .inr h2
 have hbo:=hr.mT hbb;have hsb:=(hr.sep b Q hbb).2
 let ψ:Ph:=⟨φ.f,φ.z,φ.y,fun x=>if x=b then S' else φ.s x⟩
 have own:∀x o q,(H.set (some (.sep Q')) aa b).get x=some o->φ x=some q->H.get x=some o:=fun x o q hx hq=>by
  rcases cs x o hx with⟨rfl,_⟩|⟨_,h3⟩
  ·rw[hbo]at hq;cases hq
  ·exact h3
 have sle:SLe φ ψ:=⟨fun _ _ h=>h,fun _ h=>h⟩;have hbs:∀B o,h0.f B=some o->g.f B=some o:=fun B o e=>hg B o (hr.base B o e).2 fun q=>by rw[(hsb B q).1.2]at e;cases e
 refine⟨fun x q hx=>⟨(hr.dom x q hx).1,Nat.lt_of_lt_of_le (hr.dom x q hx).2 hn⟩,fun x o hx=>?_,fun x y o o' q q' hx hy ho ho' hq hq' e=>hr.inj x y o o' q q' (own x o q hx hq) (own y o' q' hy hq') ho ho' hq hq' e,fun B o e=>⟨Nat.lt_of_lt_of_le (hr.base B o e).1 hn,hbs B o e⟩,Nat.le_trans hr.size hn,fun q hq=>⟨⟨FzR.mono (φ:=φ) (ψ:=ψ) sle.z ?_,(hr.frz q hq).1.2⟩,fun x o px hx ho hpx=>(hr.frz q hq).2 x o px (own x o px hx hpx) ho hpx⟩,fun x Q2 hx=>?_⟩
 ·rcases cs x o hx with⟨rfl,rfl⟩|⟨_,h4⟩
  ·exact .inl ⟨hbo,rfl⟩
  ·rcases hr.live x o h4 with g1|⟨q,ob,g1,g2,g3,g4⟩
   ·exact .inl g1
   ·refine .inr ⟨q,ob,g1,g2,?_,g4.cO sle⟩;cases ho:o.own with
    |true=>exact hg q.B ob g3 fun k=>(hsb q.B k).2.1 x o q h4 ho g1 rfl
    |false=>
     cases o with
     |ro l=>exact hbs q.B ob g2
     |_=>cases ho
 ·obtain⟨k0,c,t,fz,k1,k2⟩:=(hr.frz q hq).1.1;exact⟨⟨Nat.lt_of_lt_of_le k0.1 hn,k0.2⟩,c,t,fz,hg q.B _ k1 fun k=>(hsb q.B k).2.2.1 q hq rfl,k2⟩
 ·rcases cs x _ hx with⟨rfl,h2⟩|⟨h1,h4⟩
  ·injection h2 with h2;subst h2;have es:ψ.s x=S':=if_pos rfl
   show Q2.P φ.z (ψ.s x) g/\_;rw[es];refine⟨hQ,fun B hB=>?_⟩;obtain⟨k1,k2⟩:=hS B hB;have no:∀o,h.f B=some o->φ.s x B:=fun o e=>k2.elim id fun k=>by rw[k]at e;cases e
   refine⟨⟨k1,?_⟩,fun y o q hy ho hq e=>?_,fun q hq e=>?_,fun y Q4 hy hne hs=>?_⟩
   ·cases e:h0.f B with
    |none=>rfl
    |some o=>rw[(hsb B (no o (hr.base B o e).2)).1.2]at e;cases e
   ·have h5:=own y o q hy hq;rcases hr.live y o h5 with⟨k,_⟩|⟨q',ob,l1,l2,l3,_⟩
    ·rw[k]at hq;cases hq
    ·rw[l1]at hq;injection hq with hq;subst hq;exact(hsb B (no ob (e▸l3))).2.1 y o q' h5 ho l1 e
   ·obtain⟨k0,c,t,fz,l1,_⟩:=(hr.frz q hq).1.1;exact(hsb B (no _ (e▸l1))).2.2.1 q hq e
   ·rcases cs y _ hy with⟨q1,_⟩|⟨q1,q4⟩
    ·exact hne q1
    ·have:ψ.s y=φ.s y:=if_neg q1;rw[this]at hs;obtain⟨o,ho⟩:=Q4.ex _ _ _ B (hr.sep y Q4 q4).1 hs;exact(hsb B (no o ho)).2.2.2 y Q4 q4 q1 hs
  ·obtain⟨g0,g1⟩:=hr.sep x Q2 h4;have es:ψ.s x=φ.s x:=if_neg h1;show Q2.P φ.z (ψ.s x) g/\_;rw[es];have nb:∀X,φ.s x X->¬φ.s b X:=fun X hX k=>(hsb X k).2.2.2 x Q2 h4 h1 hX
   refine⟨Q2.loc _ _ h _ hn (fun X hX=>?_) g0,fun X hX=>?_⟩
   ·obtain⟨o,ho⟩:=Q2.ex _ _ _ X g0 hX;rw[hg X o ho (nb X hX),ho]
   obtain⟨k1,k2,k3,k4⟩:=g1 X hX;refine⟨⟨Nat.lt_of_lt_of_le k1.1 hn,k1.2⟩,fun y o q hy ho hq=>k2 y o q (own y o q hy hq) ho hq,k3,fun y Q4 hy hne hs=>?_⟩;rcases cs y _ hy with⟨rfl,_⟩|⟨q1,q4⟩
   ·have:ψ.s y=S':=if_pos rfl
    rw[this]at hs;obtain⟨o,ho⟩:=Q2.ex _ _ _ X g0 hX;rcases(hS X hs).2 with k|k
    ·exact nb X hX k
    ·rw[k]at ho;cases ho
   ·have:ψ.s y=φ.s y:=if_neg q1;rw[this]at hs;exact k4 y Q4 q4 hne hs
theorem HR.R3 (hr:HR φ H n h0 h) {p:Pl} {o:AO} {ob:Obj} (ho:o.own=true) (hnq:o.Hq=none) (hB:p.B<h.n/\h0.f p.B=none) (hf:h.f p.B=some ob) (hor:OR φ p o ob) (h1:∀b' o' p',H.get b'=some o'->o'.own=true->φ b'=some p'->p'.B≠p.B) (h2:∀q,φ.z q->q.B≠p.B) (h3:∀b' Q',H.get b'=some (.sep Q')->¬φ.s b' p.B):
 ∃ψ:Ph,PLe φ ψ/\ψ n=some p/\HR ψ (H.set (some o) aa n) (n+1) h0 h:=by
 have hno:φ n=none:=by
  cases e:φ n with
  |none=>rfl
  |some q=>exact absurd (hr.dom n q e).1 (Nat.lt_irrefl _)
 let ψ:Ph:=⟨fun x=>if x=n then some p else φ x,φ.z,φ.y,φ.s⟩
 have en:ψ n=some p:=if_pos rfl
 have ne:∀x,x≠n->ψ x=φ x:=fun x e=>if_neg e
 have le:PLe φ ψ:=⟨fun x q e=>(ne x fun k=>by subst k;rw[hno]at e;cases e).trans e,fun _ h=>h,fun _ h=>h⟩
 have cs:∀x o',(H.set (some o) aa n).get x=some o'->(x=n/\o'=o)∨(x≠n/\H.get x=some o'):=fun x o' hx=>by
  rcases PM.aj aa H n x o' hx with⟨k1,k2⟩|k2
  ·injection k2 with k2;exact .inl ⟨k1,k2.symm⟩
  ·exact .inr k2
 refine⟨ψ,le,en,⟨fun x q hx=>?_,fun x o' hx=>?_,fun x y o1 o2 q1 q2 hx hy w1 w2 e1 e2 e=>?_,hr.base,hr.size,fun q hq=>⟨⟨FzR.mono (φ:=φ) (ψ:=ψ) (fun _ h=>h) (hr.frz q hq).1.1,(hr.frz q hq).1.2⟩,fun x o' px hx ho' hpx=>?_⟩,fun x Q2 hx=>?_⟩⟩
 ·by_cases e:x=n
  ·subst e;rw[en]at hx;injection hx with hx;subst hx;exact⟨Nat.lt_succ_self _,hB.1⟩
  ·rw[ne x e]at hx;exact⟨Nat.lt_succ_of_lt (hr.dom x q hx).1,(hr.dom x q hx).2⟩
 ·rcases cs x o' hx with⟨rfl,rfl⟩|⟨k1,k2⟩
  ·exact .inr ⟨p,ob,en,by rw[AO.bA ho];exact hB.2,hf,hor.mono le⟩
  ·rcases hr.live x o' k2 with⟨k3,k4⟩|⟨q,ob',k3,k4,k5,k6⟩
   ·exact .inl ⟨(ne x k1).trans k3,k4⟩
   ·exact .inr ⟨q,ob',(ne x k1).trans k3,k4,k5,k6.mono le⟩
 ·rcases cs x o1 hx with⟨rfl,rfl⟩|⟨k1,k2⟩
  ·rcases cs y o2 hy with⟨rfl,_⟩|⟨k3,k4⟩
   ·rfl
   ·rw[en]at e1;injection e1 with e1;subst e1;rw[ne y k3]at e2;exact(h1 y o2 q2 k4 w2 e2 e.symm).elim
  ·rw[ne x k1]at e1;rcases cs y o2 hy with⟨rfl,rfl⟩|⟨k3,k4⟩
   ·rw[en]at e2;injection e2 with e2;subst e2;exact(h1 x o1 q1 k2 w1 e1 e).elim
   ·rw[ne y k3]at e2;exact hr.inj x y o1 o2 q1 q2 k2 k4 w1 w2 e1 e2 e
 ·rcases cs x o' hx with⟨rfl,rfl⟩|⟨k1,k2⟩
  ·rw[en]at hpx;injection hpx with hpx;subst hpx;exact fun e=>h2 q hq e.symm
  ·rw[ne x k1]at hpx;exact(hr.frz q hq).2 x o' px k2 ho' hpx
 ·rcases cs x _ hx with⟨rfl,k2⟩|⟨k1,k2⟩
  ·subst k2;cases hnq
  ·obtain⟨g0,g1⟩:=hr.sep x Q2 k2;refine⟨g0,fun X hX=>?_⟩;obtain⟨l1,l2,l3,l4⟩:=g1 X hX;refine⟨l1,fun y o' q hy ho' hq'=>?_,l3,fun y Q4 hy hne hs=>?_⟩
   ·rcases cs y o' hy with⟨rfl,rfl⟩|⟨k3,k4⟩
    ·rw[en]at hq';injection hq' with hq';subst hq';exact fun e=>h3 x Q2 k2 (by rw[e];exact hX)
    ·rw[ne y k3]at hq';exact l2 y o' q k4 ho' hq'
   ·rcases cs y _ hy with⟨rfl,k4⟩|⟨k3,k4⟩
    ·subst k4;cases hnq
    ·exact l4 y Q4 k4 hne hs
open Classical in
noncomputable def og (S:Nat->Prop) (hb h:Hp):Hp:=⟨fun B=>if S B/\hb.f B=none then none else h.f B,h.n⟩
open Classical in
noncomputable def inS (S:Nat->Prop) (h:Hp):Hp:=⟨fun B=>if S B then h.f B else none,h.n⟩
def Cb (hb:Hp) (σ:AE) (ρ:Env) (H:AH) (n:Nat):HP where
 P _ S h:=(∀B,S B->∃o,h.f B=some o)/\∃(φ:Ph) (g:Hp),g.n<=h.n/\(∀B o,g.f B=some o->S B/\h.f B=some o)/\(∀q,¬φ.y q)/\HR φ H n hb g/\FR φ σ ρ
 loc _ _ _ _ hn e hp:=⟨fun B hB=>let⟨o,ho⟩:=hp.1 B hB;⟨o,(e B hB).trans ho⟩,let⟨φ,g,h1,h2,h3⟩:=hp.2;⟨φ,g,Nat.le_trans h1 hn,fun B o q=>⟨(h2 B o q).1,(e B (h2 B o q).1).trans (h2 B o q).2⟩,h3⟩⟩
 mono _ _ _ _ _ h:=h
 ex _ _ _ B h hB:=h.1 B hB
theorem xX {B:Nat} {o:Obj} (h1:(og S hb h).f B=some o):h.f B=some o/\¬(S B/\hb.f B=none):=by
 by_cases e:S B/\hb.f B=none
 ·have:(og S hb h).f B=none:=if_pos e;rw[this]at h1;cases h1
 ·have:(og S hb h).f B=h.f B:=if_neg e;rw[this]at h1;exact⟨h1,e⟩
theorem zx {B:Nat} (k:S B) (e:hb.f B=none):(og S hb h).f B=none:=if_pos ⟨k,e⟩
theorem jX {B:Nat} (e:¬(S B/\hb.f B=none)):(og S hb h).f B=h.f B:=if_neg e
theorem HR.lift (hr:HR φ H n hb g) (hw:Wf h) (hn:g.n<=h.n) (hsub:∀B o,g.f B=some o->S B/\h.f B=some o) (hy:∀q,¬φ.y q):HR φ H n (og S hb h) h:=by
 refine⟨fun x q hx=>⟨(hr.dom x q hx).1,Nat.lt_of_lt_of_le (hr.dom x q hx).2 hn⟩,fun x o hx=>?_,hr.inj,fun B o e=>⟨hw B o (xX e).1,(xX e).1⟩,Nat.le_refl _,fun q hq=>?_,fun x Q2 hx=>?_⟩
 ·rcases hr.live x o hx with k|⟨p,ob,k1,k2,k3,k4⟩
  ·exact .inl k
  ·refine .inr ⟨p,ob,k1,?_,(hsub _ _ k3).2,k4⟩;cases ho:o.own with
   |true=>
    rw[AO.bA ho]at k2⊢;exact zx (hsub _ _ k3).1 k2
   |false=>
    cases o with
    |ro l=>
     have k2:hb.f p.B=some ob:=k2;exact(jX fun k=>by rw[k2]at k;cases k.2).trans (hsub _ _ k3).2
    |_=>cases ho
 ·obtain⟨⟨k1,k2⟩,k3⟩:=hr.frz q hq;obtain⟨l0,c,t,fz,l1,l2⟩:=k1;exact⟨⟨⟨⟨Nat.lt_of_lt_of_le l0.1 hn,l0.2⟩,c,t,fz,(hsub _ _ l1).2,l2⟩,.inr (zx (hsub _ _ l1).1 (k2.resolve_left (hy q)))⟩,k3⟩
 ·obtain⟨k1,k2⟩:=hr.sep x Q2 hx;have ex:∀B,φ.s x B->∃o,g.f B=some o:=fun B hB=>Q2.ex _ _ _ B k1 hB
  refine⟨Q2.loc _ _ g _ hn (fun B hB=>?_) k1,fun B hB=>?_⟩
  ·obtain⟨o,ho⟩:=ex B hB;rw[ho,(hsub _ _ ho).2]
  ·obtain⟨o,ho⟩:=ex B hB;obtain⟨l1,l2⟩:=k2 B hB;exact⟨⟨Nat.lt_of_lt_of_le l1.1 hn,zx (hsub _ _ ho).1 l1.2⟩,l2⟩
theorem HR.zy (hr:HR φ H n h1 g) {L:Nat} {o o':Obj} (hL:h1.f L=some o) (hown:∀b o,H.get b=some o->o.own=true) (hy:∀q,¬φ.y q):HR φ H n (h1.put L o') (g.put L o'):=by
 have ne:∀B,h1.f B=none->B≠L:=fun B e k=>by subst k;rw[hL]at e;cases e
 refine⟨hr.dom,fun x o hx=>?_,hr.inj,fun B o e=>?_,hr.size,fun q hq=>?_,fun x Q2 hx=>?_⟩
 ·rcases hr.live x o hx with k|⟨p,ob,k1,k2,k3,k4⟩
  ·exact .inl k
  ·have hu:=AO.bA (hown x o hx) ob;rw[hu]at k2;refine .inr ⟨p,ob,k1,?_,?_,k4⟩
   ·rw[hu,aR _ _ _ _ (ne _ k2)];exact k2
   ·rw[aR _ _ _ _ (ne _ k2)];exact k3
 ·by_cases k:B=L
  ·subst k;rw[bO]at e⊢;exact⟨(hr.base _ _ hL).1,e⟩
  ·rw[aR _ _ _ _ k]at e⊢;exact hr.base _ _ e
 ·obtain⟨⟨k1,k2⟩,k3⟩:=hr.frz q hq;have k2:=k2.resolve_left (hy q);obtain⟨l0,c,t,fz,l1,l2⟩:=k1;exact⟨⟨⟨l0,c,t,fz,(aR _ _ _ _ (ne _ k2)).trans l1,l2⟩,.inr ((aR _ _ _ _ (ne _ k2)).trans k2)⟩,k3⟩
 ·obtain⟨k1,k2⟩:=hr.sep x Q2 hx;refine⟨Q2.loc _ _ g _ (Nat.le_refl _) (fun B hB=>aR _ _ _ _ (ne _ (k2 B hB).1.2)) k1,fun B hB=>?_⟩;obtain⟨l1,l2⟩:=k2 B hB;exact⟨⟨l1.1,(aR _ _ _ _ (ne _ l1.2)).trans l1.2⟩,l2⟩
theorem HR.cut (hr:HR φ H n h1 g) (hown:∀b o,H.get b=some o->o.own=true) (hy:∀q,¬φ.y q) (hS:∀B o,g.f B=some o->h1.f B=none->S' B) (hbs:∀B o,hb.f B=some o->S' B/\g.f B=some o/\h1.f B≠none) (hbn:hb.n<=g.n):HR φ H n hb (inS S' g):=by
 have is:∀B,S' B->(inS S' g).f B=g.f B:=fun B e=>if_pos e
 have no:∀B,h1.f B=none->hb.f B=none:=fun B e=>by
  cases k:hb.f B with
  |none=>rfl
  |some o=>exact absurd e (hbs B o k).2.2
 refine⟨hr.dom,fun x o hx=>?_,hr.inj,fun B o e=>⟨(hr.base B _ (show h1.f B=some ((h1.f B).get (Option.isSome_iff_ne_none.2 (hbs B o e).2.2)) by simp)).1,(is B (hbs B o e).1).trans (hbs B o e).2.1⟩,hbn,fun q hq=>?_,fun x Q2 hx=>?_⟩
 ·rcases hr.live x o hx with k|⟨p,ob,k1,k2,k3,k4⟩
  ·exact .inl k
  ·have hu:=AO.bA (hown x o hx) ob;rw[hu]at k2;exact .inr ⟨p,ob,k1,by rw[hu];exact no _ k2,(is _ (hS _ _ k3 k2)).trans k3,k4⟩
 ·obtain⟨⟨k1,k2⟩,k3⟩:=hr.frz q hq;have k2:=k2.resolve_left (hy q);obtain⟨l0,c,t,fz,l1,l2⟩:=k1;exact⟨⟨⟨l0,c,t,fz,(is _ (hS _ _ l1 k2)).trans l1,l2⟩,.inr (no _ k2)⟩,k3⟩
 ·obtain⟨k1,k2⟩:=hr.sep x Q2 hx;have ex:∀B,φ.s x B->S' B:=fun B hB=>let⟨o,ho⟩:=Q2.ex _ _ _ B k1 hB;hS B o ho (k2 B hB).1.2
  refine⟨Q2.loc _ _ g _ (Nat.le_refl _) (fun B hB=>is B (ex B hB)) k1,fun B hB=>?_⟩;obtain⟨l1,l2⟩:=k2 B hB;exact⟨⟨l1.1,no _ l1.2⟩,l2⟩
end
end Go.Proofs.YtflehenfikoniaaGreat
namespace Go.Proofs.YtflehenfikoniaaGreat
open Go Go.RowKit
def jP:Code->Bool
 | .skip=>true
 | .region _ _ d=>!d
 | .seq a b=>jP a&&jP b
 | .cond _ a b=>jP a&&jP b
 | .block _ c=>jP c
 | .exit _=>true
 | .ret=>true
 |_=>false
def Uh (d:List Deferred) (n:Nat) (ds:List Nat) (ρ0:Env) (w0:World) (N R:EH) (X:Nat->EH):Exit->Act->World->Prop
 | .normal,a,w=>∃ρ h,nG d n a ρ/\Is w h/\bG w0 w/\fU ds ρ0 ρ/\N ρ h
 | .ret,a,w=>∃ρ h,nG d n a ρ/\Is w h/\bG w0 w/\fU ds ρ0 ρ/\R ρ h
 | .exit i,a,w=>∃ρ h,nG d n a ρ/\Is w h/\bG w0 w/\fU ds ρ0 ρ/\X i ρ h
 |_,_,_=>False
theorem jc {P:Program} {r:Option Nat} {d:List Deferred} {n:Nat} {w0:World}:∀(c:Code),jP c=true->∀(ds:List Nat),(∀t∈aF c,t<n/\ds.contains t=true)->∀(N R:EH) (X:Nat->EH) (ρ0 ρ:Env) (h:Hp) (a:Act) (w:World),
 avc P c N R X ρ h->nG d n a ρ->Is w h->bG w0 w->fU ds ρ0 ρ->c.wpIn (FW r) 0 P (Uh d n ds ρ0 w0 N R X) a w:=by
 intro c
 induction c with
 |skip=>intro _ ds _ N R X ρ0 ρ h a w hk hr hi hs hp;exact wpIn_skip ⟨ρ,h,hr,hi,hs,hp,hk⟩
 |region id ops draw=>
  intro hc ds hd N R X ρ0 ρ h a w hk hr hi hs hp;have hd':=sZ (l:=ops.toList) hd;cases draw with
  |true=>cases hc
  |false=>exact wpIn_region_list (nH (r:=r) (d:=d) (n:=n) (ds:=ds) (ρ0:=ρ0) (w0:=w0) (fun a' w' ρ' h' hr' hp' hi' hs' hN=>⟨ρ',h',hr',hi',hs',hp',hN⟩) ops.toList hd' ρ h a w hk hr hp hi hs)
 |seq x y ihx ihy=>
  intro hc ds hd N R X ρ0 ρ h a w hk hr hi hs hp;simp only[jP,Bool.and_eq_true]at hc;refine wpIn_seq (wpIn_mono (ihx hc.1 ds (fun t ht=>hd t (by simp[aF,ht])) (fun ρ' h'=>avc P y N R X ρ' h') R X ρ0 ρ h a w hk hr hi hs hp) (fun e a' w' hq=>?_));cases e with
  |normal=>
   obtain⟨ρ',h',hr',hi',hs',hp',hN⟩:=hq;exact ihy hc.2 ds (fun t ht=>hd t (by simp[aF,ht])) N R X ρ0 ρ' h' a' w' hN hr' hi' hs' hp'
  |_=>exact hq
 |cond t x y ihx ihy=>
  intro hc ds hd N R X ρ0 ρ h a w hk hr hi hs hp;simp only[jP,Bool.and_eq_true]at hc;unfold avc at hk;split at hk
  ·rename_i q hq;refine wpIn_cond_split (t:=q) (by rw[hr.eval,hq]) (fun e=>?_) (fun e=>?_)
   ·exact ihx hc.1 ds (fun t ht=>hd t (by simp[aF,ht])) N R X ρ0 ρ h a w (hk.1 e) hr hi hs hp
   ·exact ihy hc.2 ds (fun t ht=>hd t (by simp[aF,ht])) N R X ρ0 ρ h a w (hk.2 e) hr hi hs hp
  ·exact hk.elim
 |block id x ih=>
  intro hc ds hd N R X ρ0 ρ h a w hk hr hi hs hp;refine wpIn_block (wpIn_mono (ih hc ds hd N R (fun i ρ' h'=>if i=id then N ρ' h' else X i ρ' h') ρ0 ρ h a w hk hr hi hs hp) (fun e a' w' hq=>?_));cases e with
  |exit i=>
   obtain⟨ρ',h',hr',hi',hs',hp',hX⟩:=hq;simp only[Exit.inBlock];split
   ·rename_i e;rw[if_pos e]at hX;exact⟨ρ',h',hr',hi',hs',hp',hX⟩
   ·rename_i e;rw[if_neg e]at hX;exact⟨ρ',h',hr',hi',hs',hp',hX⟩
  |_=>exact hq
 |exit i=>intro _ ds _ N R X ρ0 ρ h a w hk hr hi hs hp;exact wpIn_exit ⟨ρ,h,hr,hi,hs,hp,hk⟩
 |ret=>intro _ ds _ N R X ρ0 ρ h a w hk hr hi hs hp;exact wpIn_ret ⟨ρ,h,hr,hi,hs,hp,hk⟩
 |_=>intro hc;cases hc
def dR (rec:Loop) (st:LoopState) (pd:Option Code):Loop:={rec with state:=st,pending:=pd}
def kR (L D:Nat) (rec:Loop) (st:LoopState) (pd:Option Code):Hp:=⟨fun B=>if B=L then some (.loop (dR rec st pd))else if B=D then some (.deferred (some []))else none,0⟩
theorem sj (L D:Nat) (rec:Loop) (st:LoopState) (pd:Option Code):(kR L D rec st pd).f L=some (.loop (dR rec st pd)):=if_pos rfl
theorem sm {L D:Nat} (h:D≠L) (rec:Loop) (st:LoopState) (pd:Option Code):(kR L D rec st pd).f D=some (.deferred (some [])):=(if_neg h).trans (if_pos rfl)
theorem zA {L D B:Nat} (h1:B≠L) (h2:B≠D) (rec:Loop) (st:LoopState) (pd:Option Code):(kR L D rec st pd).f B=none:=(if_neg h1).trans (if_neg h2)
def c8 (H:AH):Prop:=∀b o,H.get b=some o->o.own=true
def RdK (L D b:Nat) (rec:Loop) (σ:AE) (ρ:Env) (H:AH) (n:Nat) (κ:PK) (st:LoopState) (pd:Option Code) (H3:AH) (n3:Nat):Prop:=
 ∃H4 n4,Cov 0 σ H3 n3 (σ,H4,n4)/\c8 H4/\κ (.bool pd.isNone) (H.set (some (.sep (Cb (kR L D rec st pd) σ ρ H4 n4))) aa b) n
def R4 (L D b t:Nat) (ca cb:Code) (rec:Loop) (σ:AE) (ρ:Env) (call cd:CP) (args:List AV) (H:AH) (n:Nat) (κ:PK):Prop:=
 ∃H1 n1 x,H.get b=some (.sep (Cb (kR L D rec .ready none) σ ρ H1 n1))/\args=[x]/\(∀(φ ψ:Ph) (v:Value),VR φ x v->VR ψ x v)/\c8 H1/\
  jt n1 cd [] ca call (cN σ (some t) x) H1 n1 (fun σ2 H2 n2=>c8 H2/\jt n2 cd [] cb call σ2 H2 n2
   (fun _ H3 n3=>c8 H3/\RdK L D b rec σ ρ H n κ .ready none H3 n3)
   (fun i _ H3 n3=>c8 H3/\RdK L D b rec σ ρ H n κ .done (some (.exit i)) H3 n3) (fun _ _ _=>False)) (fun _ _ _ _=>False) (fun _ _ _=>False)
theorem Is.putObj {w:World} {h:Hp} (hi:Is w h) {L:Nat} {o o':Obj} (e:h.f L=some o):Is (w.putObj L o') (h.put L o'):=
 hi.set e (by simp) (World.putObj_heap_same (by rw[hi.1];exact hi.lt e)) fun x hx=>World.putObj_heap_other hx
theorem bG.putObj (w:World) (L:Nat) (o:Obj):bG w (w.putObj L o):=⟨rfl,rfl,rfl⟩
section
variable {L D b t:Nat} {rec:Loop} {σ:AE} {ρ:Env} {call cd:CP}
theorem OB (hcall:nS call) (hcd:nS cd) (hcs:tf cd) (hDL:D≠L) (hps:rec.params= #[t]) (hcA:jP rec.assign=true) (hcB:jP rec.body=true) (hdA:lB [] rec.assign=true) (hdB:lB [] rec.body=true)
 (hdd:((aF rec.assign).all fun t=>decide (t<rec.tmps.size))=true) (hde:((aF rec.body).all fun t=>decide (t<rec.tmps.size))=true) (ht:t<rec.tmps.size) (hρ:∀t,rec.tmps.getD t undef=ρ t):Nk L (R4 L D b t rec.assign rec.body rec σ ρ call cd):=by
 intro args H n κ hs φ h0 h vs K hr hargs hk w hi;obtain⟨H1,n1,x,hb,rfl,hfl,hown,hs⟩:=hs;obtain⟨v,us,qv,ev,ru⟩:=hargs.cons_inv;have ru:=ru.aM;subst ru;have hvs:vs= #[v]:=Array.ext' qv;subst hvs;have hw:=hi.wf;obtain⟨⟨hex,φ',g,hgn,hsub,hy,hr',hf'⟩,hcond⟩:=hr.sep b _ hb;have gL:=(hr'.base L _ (sj L D rec .ready none)).2;have gD:=(hr'.base D _ (sm hDL rec .ready none)).2;have r1:=hr'.lift hw hgn hsub hy;have bL:(og (φ.s b) (kR L D rec .ready none) h).f L=some (.loop (dR rec .ready none)):=(jX fun k=>by rw[sj]at k;cases k.2).trans (hsub _ _ gL).2;have bD:(og (φ.s b) (kR L D rec .ready none) h).f D=some (.deferred (some [])):=(jX fun k=>by rw[sm hDL]at k;cases k.2).trans (hsub _ _ gD).2;have hLw:w.heap[L]?=some (.loop (dR rec .ready none)):=hi.2 _ _ (hsub _ _ gL).2;have hx:VR φ' x v:=hfl φ φ' v ev;refine⟨rec.fn,rec.tmps.setIfInBounds t v,rec.assign,rec.body,?_,roundIn_of_wpIn trivial ?_⟩
 ·rw[run_yield hLw (by show 1=rec.params.size;rw[hps];rfl)];simp[dR,hps]
 have rel:nG [] rec.tmps.size {tmps:=rec.tmps.setIfInBounds t v,defers:=[]} (ρ.upd t v):=by
  have:nG [] rec.tmps.size {tmps:=rec.tmps,defers:=[]} ρ:=⟨rfl,rfl,hρ⟩;exact this.put (d:=some t) (fun s e=>by injection e with e;subst e;exact ht) v
 have dsA:∀t∈aF rec.assign,t<rec.tmps.size/\(aF rec.assign).contains t=true:=fun t ht=>⟨by simpa using List.all_eq_true.1 hdd t ht,by simpa using ht⟩
 have dsB:∀t∈aF rec.body,t<rec.tmps.size/\(aF rec.body).contains t=true:=fun t ht=>⟨by simpa using List.all_eq_true.1 hde t ht,by simpa using ht⟩
 have fin:∀(st:LoopState) (pd:Option Code) (φ2 φ3:Ph) (H3:AH) (n3:Nat) (ρ3:Env) (h3:Hp) (w3:World),PLe φ' φ2->PLe φ2 φ3->HR φ3 H3 n3 ((og (φ.s b) (kR L D rec .ready none) h).put L (.loop (dR rec .busy none))) h3->c8 H3->RdK L D b rec σ ρ H n κ st pd H3 n3->Is w3 h3->bG w w3->
  ∃v' h',Ending.returned (.bool pd.isNone)= .returned v'/\Is (w3.putObj L (.loop (dR rec st pd))) h'/\bG w (w3.putObj L (.loop (dR rec st pd)))/\K v' h':=by
  intro st pd φ2 φ3 H3 n3 ρ3 h3 w3 l1 l2 r3 ho3 ⟨H4,n4,hc,hown4,hκ⟩ hi3 hs3;have y3:∀q,¬φ3.y q:=fun q hq=>hy q ((l1.trans l2).y q hq)
  obtain⟨χ,⟨_,_,cy⟩,r4,f4⟩:=hc φ3 _ h3 ρ r3 (hf'.mono (l1.trans l2));have y4:∀q,¬χ.y q:=fun q hq=>y3 q (cy q hq)
  have r4:HR χ H4 n4 ((og (φ.s b) (kR L D rec .ready none) h).put L (.loop (dR rec .busy none))) h3:=r4;have hL3:=(r4.base L _ (bO _ _ _)).2;have r5:=r4.zy (o':= .loop (dR rec st pd)) (bO _ _ _) hown4 y4;refine⟨_,h3.put L (.loop (dR rec st pd)),rfl,hi3.putObj hL3,hs3.trans (bG.putObj _ _ _),?_⟩
  let S':Nat->Prop:=fun B=>(∃o,(h3.put L (.loop (dR rec st pd))).f B=some o)/\(φ.s b B∨h.f B=none)
  have hS:∀B,S' B->B<h3.n/\(φ.s b B∨h.f B=none):=fun B ⟨⟨o,ho⟩,k⟩=>⟨by
   have:=(hi3.putObj (o':= .loop (dR rec st pd)) hL3).lt ho;exact this,k⟩
  have hn3:h.n<=h3.n:=r4.size
  have b9:∀B o,h.f B=some o->¬φ.s b B->(h3.put L (.loop (dR rec st pd))).f B=some o:=fun B o e k=>by
   have kL:B≠L:=fun q=>by subst q;exact k (hsub _ _ gL).1
   rw[aR _ _ _ _ kL];refine(r4.base B o ?_).2;rw[aR _ _ _ _ kL];exact(jX fun q=>k q.1).trans e
  have kD:(h3.put L (.loop (dR rec st pd))).f D=some (.deferred (some [])):=by
   rw[aR _ _ _ _ hDL];exact(r4.base D _ (by rw[aR _ _ _ _ hDL];exact bD)).2
  have hQ:(Cb (kR L D rec st pd) σ ρ H4 n4).P φ.z S' (h3.put L (.loop (dR rec st pd))):=by
   refine⟨fun B hB=>hB.1,χ,inS S' (h3.put L (.loop (dR rec st pd))),Nat.le_refl _,fun B o e=>?_,y4,r5.cut hown4 y4 (fun B o e k=>⟨⟨o,e⟩,?_⟩) (fun B o e=>?_) (Nat.zero_le _),f4⟩
   ·by_cases k:S' B
    ·have:(inS S' (h3.put L (.loop (dR rec st pd)))).f B=(h3.put L (.loop (dR rec st pd))).f B:=if_pos k;rw[this]at e;exact⟨k,e⟩
    ·have:(inS S' (h3.put L (.loop (dR rec st pd)))).f B=none:=if_neg k;rw[this]at e;cases e
   ·have kL:B≠L:=fun q=>by subst q;rw[bO]at k;cases k
    rw[aR _ _ _ _ kL,aR _ _ _ _ kL]at k;by_cases q:φ.s b B
    ·exact .inl q
    ·rw[jX fun q'=>q q'.1]at k;exact .inr k
   ·by_cases kL:B=L
    ·subst kL;rw[sj]at e;refine⟨⟨⟨_,bO _ _ _⟩,.inl (hsub _ _ gL).1⟩,by rw[bO];exact e,by rw[bO];simp⟩
    ·by_cases kB:B=D
     ·subst kB;rw[sm hDL]at e;refine⟨⟨⟨_,kD⟩,.inl (hsub _ _ gD).1⟩,kD.trans e,by rw[aR _ _ _ _ kL,aR _ _ _ _ kL,bD];simp⟩
     ·rw[zA kL kB]at e;cases e
  exact hk ⟨φ.f,φ.z,φ.y,fun x=>if x=b then S' else φ.s x⟩ _ _ _ _ _ ⟨fun _ _ h=>h,fun _ h=>h,fun _ h=>h⟩ (hr.Qr (g:=h3.put L (.loop (dR rec st pd))) hb hw hn3 b9 hS hQ) (.bool _) hκ
 have ha:=ju hcall hcd hcs (D:=[]) (p:=n1) (φ0:=φ') (fun b q e=>(hr'.dom b q e).1) rec.assign hdA φ' _ H1 n1 _ _ _ (ρ.upd t v) h
  (fun ρ2 h2=>∃φ2 σ2 H2 n2,PLe φ' φ2/\HR φ2 H2 n2 (og (φ.s b) (kR L D rec .ready none) h) h2/\FR φ2 σ2 ρ2/\c8 H2/\jt n2 cd [] rec.body call σ2 H2 n2
   (fun _ H3 n3=>c8 H3/\RdK L D b rec σ ρ H n κ .ready none H3 n3)
   (fun i _ H3 n3=>c8 H3/\RdK L D b rec σ ρ H n κ .done (some (.exit i)) H3 n3) (fun _ _ _=>False)) (fun _ _=>False) (fun _ _ _=>False) (PLe.refl _) r1 (hf'.put (some t) hx) hs
  (fun ψ σ2 H2 n2 ρ2 h2 l1 r2 f2 ⟨o2,k⟩=>⟨ψ,σ2,H2,n2,l1,r2,f2,o2,k⟩) (fun _ _ _ _ _ _ _ _ _ k=>k.elim) (fun i _ _ _ _ _ _ _ _ _ k=>k.elim)
 refine wpIn_mono (jc (r:=some L) (d:=[]) (w0:=w) rec.assign hcA _ dsA _ _ _ _ _ h _ w ha rel hi (bG.refl w) (fun _ _=>rfl)) fun e a1 w1 hq=>?_
 cases e with
 |normal=>
  obtain⟨ρ2,h2,rel2,hi2,hs2,_,φ2,σ2,H2,n2,l1,r2,f2,o2,hbody⟩:=hq;have hL2:=(r2.base L _ bL).2;refine⟨_,run_beginRound (hi2.2 _ _ hL2) rfl,?_⟩;have y2:∀q,¬φ2.y q:=fun q hq=>hy q (l1.y q hq)
  have r3:=r2.zy (o':= .loop (dR rec .busy none)) bL o2 y2
  have hb2:=ju hcall hcd hcs (D:=[]) (p:=n2) (φ0:=φ2) (fun b q e=>(r2.dom b q e).1) rec.body hdB φ2 _ H2 n2 _ _ _ ρ2 (h2.put L (.loop (dR rec .busy none)))
   (fun ρ3 h3=>∃φ3 H3 n3,PLe φ2 φ3/\HR φ3 H3 n3 ((og (φ.s b) (kR L D rec .ready none) h).put L (.loop (dR rec .busy none))) h3/\c8 H3/\RdK L D b rec σ ρ H n κ .ready none H3 n3) (fun _ _=>False)
   (fun i ρ3 h3=>∃φ3 H3 n3,PLe φ2 φ3/\HR φ3 H3 n3 ((og (φ.s b) (kR L D rec .ready none) h).put L (.loop (dR rec .busy none))) h3/\c8 H3/\RdK L D b rec σ ρ H n κ .done (some (.exit i)) H3 n3) (PLe.refl _) r3 f2 hbody
   (fun ψ σ3 H3 n3 ρ3 h3 l2 r4 f3 ⟨o3,k⟩=>⟨ψ,H3,n3,l2,r4,o3,k⟩) (fun _ _ _ _ _ _ _ _ _ k=>k.elim) (fun i ψ σ3 H3 n3 ρ3 h3 l2 r4 f3 ⟨o3,k⟩=>⟨ψ,H3,n3,l2,r4,o3,k⟩)
  have hs2':=hs2.trans (bG.putObj w1 L (.loop (dR rec .busy none)));refine wpIn_mono (jc (r:=some L) (d:=[]) (w0:=w) rec.body hcB _ dsB _ _ _ _ _ _ _ _ hb2 rel2 (hi2.putObj hL2) hs2' (fun _ _=>rfl)) fun e a2 w2 hq=>?_
  cases e with
  |normal=>
   obtain⟨ρ3,h3,_,hi3,hs3,_,φ3,H3,n3,l2,r4,o3,k⟩:=hq;have hL3:=(r4.base L _ (bO _ _ _)).2;exact⟨_,_,run_endRound none (hi3.2 _ _ hL3),fin .ready none φ2 φ3 H3 n3 ρ3 h3 w2 l1 l2 r4 o3 k hi3 hs3⟩
  |exit i=>
   obtain⟨ρ3,h3,_,hi3,hs3,_,φ3,H3,n3,l2,r4,o3,k⟩:=hq;have hL3:=(r4.base L _ (bO _ _ _)).2;exact⟨_,_,run_endRound (some (.exit i)) (hi3.2 _ _ hL3),fin .done (some (.exit i)) φ2 φ3 H3 n3 ρ3 h3 w2 l1 l2 r4 o3 k hi3 hs3⟩
  |ret=>obtain⟨_,_,_,_,_,_,k⟩:=hq;exact k.elim
  |_=>exact hq.elim
 |ret=>obtain⟨_,_,_,_,_,_,k⟩:=hq;exact k.elim
 |exit i=>obtain⟨_,_,_,_,_,_,k⟩:=hq;exact k.elim
 |_=>exact hq.elim
end
section
variable {φ:Ph} {H:AH} {n:Nat} {h0 h g:Hp}
theorem HR.ext (hr:HR φ H n h0 h) (hn:h.n<=g.n) (hg:∀B o,h.f B=some o->g.f B=some o):HR φ H n h0 g:=by
 refine⟨fun x q hx=>⟨(hr.dom x q hx).1,Nat.lt_of_lt_of_le (hr.dom x q hx).2 hn⟩,fun x o hx=>?_,hr.inj,fun B o e=>⟨Nat.lt_of_lt_of_le (hr.base B o e).1 hn,hg B o (hr.base B o e).2⟩,Nat.le_trans hr.size hn,fun q hq=>?_,fun x Q hx=>?_⟩
 ·rcases hr.live x o hx with k|⟨p,ob,k1,k2,k3,k4⟩
  ·exact .inl k
  ·exact .inr ⟨p,ob,k1,k2,hg _ _ k3,k4⟩
 ·obtain⟨⟨k1,k2⟩,k3⟩:=hr.frz q hq;obtain⟨l0,c,t,fz,l1,l2⟩:=k1;exact⟨⟨⟨⟨Nat.lt_of_lt_of_le l0.1 hn,l0.2⟩,c,t,fz,hg _ _ l1,l2⟩,k2⟩,k3⟩
 ·obtain⟨k1,k2⟩:=hr.sep x Q hx;refine⟨Q.loc _ _ h _ hn (fun B hB=>?_) k1,fun B hB=>?_⟩
  ·obtain⟨o,ho⟩:=Q.ex _ _ _ B k1 hB;rw[ho,hg _ _ ho]
  ·obtain⟨l1,l2⟩:=k2 B hB;exact⟨⟨Nat.lt_of_lt_of_le l1.1 hn,l1.2⟩,l2⟩
end
def Qs:AV->Bool
 | .ptr _ _=>true
 |a=>flat.flat1 a
theorem LN {φ ψ:Ph} {a:AV} {v:Value} (ha:Qs a=true) (hf:∀b p,φ b=some p->ψ b=some p) (h:VR φ a v):VR ψ a v:=by
 cases a with
 |ptr b o=>
  simp only[VR]at h⊢;obtain⟨p,h1,h2⟩:=h;exact⟨p,hf _ _ h1,h2⟩
 |_=>exact ba ha h
structure RfC where
 A:Code
 B:Code
 C:Code
 E:Code
 id:Nat
 gt:Nat
 t:Nat
 ca:Code
 cb:Code
def RfC.code (r:RfC):Code:= .seq r.A (.seq r.B (.seq (.seq r.C (.block r.id (.rangeFunc (.tmp r.gt) ⟨[r.t]⟩ r.ca r.cb))) r.E))
def rfC:Code->Option RfC
 | .seq A (.seq B (.seq (.seq C (.block id (.rangeFunc (.tmp gt) ⟨[t]⟩ ca cb))) E))=>some ⟨A,B,C,E,id,gt,t,ca,cb⟩
 |_=>none
theorem LO {c:Code} {r:RfC} (h:rfC c=some r):c=r.code:=by
 unfold rfC at h;split at h
 ·injection h with h;subst h;rfl
 ·cases h
noncomputable def RfC.ok (r:RfC) (m:Nat):Bool:=jP r.A&&jP r.B&&jP r.C&&jP r.E&&jP r.ca&&jP r.cb&&lB [] r.ca&&lB [] r.cb&&lB [] r.E&&lB [] (.seq r.A (.seq r.B r.C))&&
 ((aF r.A).all fun t=>decide (t<m))&&((aF r.B).all fun t=>decide (t<m))&&((aF r.C).all fun t=>decide (t<m))&&((aF r.E).all fun t=>decide (t<m))&&((aF r.ca).all fun t=>decide (t<m))&&((aF r.cb).all fun t=>decide (t<m))&&decide (r.t<m)
def RfR (b:Nat) (κ:PK) (H:AH) (n:Nat) (H4:AH) (v:AV):Prop:=
 ((∀(φ ψ:Ph) (u:Value),VR φ v u->VR ψ v u)/\κ v (H.set none aa b) n)∨
 ∃c o m k x l z,v= .rw c o m k x/\H4.get c=some (.cells l z)/\l.all flat.flat1=true/\κ (.rw n o m k x) ((H.set none aa b).set (some (.cells l z)) aa n) (n+1)
def RfE (L D b:Nat) (r:RfC) (rs:List ResultVar) (rec:Loop) (σ:AE) (ρ:Env) (call cd:CP) (κ:PK) (H:AH) (n:Nat):Prop:=
 ∃st pd Hx nx,H.get b=some (.sep (Cb (kR L D rec st pd) σ ρ Hx nx))/\st≠ .busy/\(pd=none∨pd=some (.exit r.id))/\c8 Hx/\
  jt nx cd [] r.E call σ Hx nx (fun _ _ _=>False) (fun _ _ _ _=>False) fun σ4 H4 _=>c8 H4/\A0 rs σ4 H4 fun vs=>RfR b κ H n H4 (xg vs)
def zB (o:AO):Bool:=match o with
 | .cells l _=>l.all flat.flat1
 |_=>false
def RfS (r:RfC) (m:Nat) (rs:List ResultVar) (call cd:CP) (κ:PK) (σ1:AE) (H1:AH) (n1:Nat):Prop:=
 n1<900000/\∃gf first ts Hi He σj Hj nj,ak (pa r.gt) σ1= .fn gf first []/\(ts.all fun t=>Qs (ak (pa t) σ1))=true/\fD Hi H1/\fD He H1/\(∀b o,Hi.get b=some o->zB o=true/\He.get b=none)/\Cov 0 (ky σ1 ts) Hi n1 (σj,Hj,nj)/\
  ∀(L D:Nat) (rec:Loop) (ρ:Env),Nk L (R4 L D n1 r.t r.ca r.cb rec σj ρ call cd)->
   call gf (first++ [.any (.func (.yield L) #[] #[])]) (He.set (some (.sep (Cb (kR L D rec .ready none) σj ρ Hj nj))) aa n1) (n1+1) fun _ H2 n2=>RfE L D n1 r rs rec σj ρ call cd κ H2 n2
def RfG (call cd:CP) (f:FuncId) (args:List AV) (H:AH) (n:Nat) (κ:PK):Prop:=match Tryz.prog.funcs[f]? with
 |some fn=>(match fn.body with
  |some c=>(match rfC c with
   |some r=>r.ok fn.ntmps=true/\args.length<=fn.ntmps/\jt n cd [] (.seq r.A (.seq r.B r.C)) call (uL args 0 .nil) H n (RfS r fn.ntmps fn.results.toList call cd κ) (fun _ _ _ _=>False) (fun _ _ _=>False)
   |none=>False)
  |none=>False)
 |none=>False
theorem vO {φ ψ:Ph} {p:Pl} {o:AO} {ob:Obj} (ho:zB o=true) (h:OR φ p o ob):OR ψ p o ob:=by
 cases o with
 |cells l z=>
  obtain⟨c,t,fz,h1,h2,h3,h4,h5,h6⟩:=h;refine⟨c,t,fz,h1,h2,h3,h4,h5,fun i a hi=>?_⟩;obtain⟨v,k1,k2⟩:=h6 i a hi;exact⟨v,k1,ba (List.all_eq_true.1 ho a (List.mem_of_getElem? hi)) k2⟩
 |_=>cases ho
theorem oh {o:AO} (ho:zB o=true):o.own=true/\o.Hq=none:=by cases o<;>first|exact⟨rfl,rfl⟩|cases ho
theorem F1 {H:AH} {v:Option AO} {n x:Nat} {o:AO} (h:(PM.set v aa H n).get x=some o):(x=n/\v=some o)∨(x≠n/\H.get x=some o):=PM.aj aa H n x o h
theorem R5 {φ ψ:Ph} {H H4:AH} {n n4 b:Nat} {h0 h1 g h:Hp} {κ:PK} {K:KH} {v:AV} {u:Value} {Q:HP} (hbn:b<1000000) (hk:ck φ h0 κ K) (hle:PLe φ ψ) (hr:HR ψ H n h0 g) (hb:H.get b=some (.sep Q)) (hw:Wf g) (hwh:Wf h) (hn:g.n<=h.n) (hg:∀B o,g.f B=some o->¬ψ.s b B->h.f B=some o)
 {χ:Ph} (hx:HR χ H4 n4 h1 h) (h1s:∀B,h1.f B=none->(∃o,h.f B=some o)->ψ.s b B∨g.f B=none) (hu:VR χ v u) (hs:RfR b κ H n H4 v):K u h:=by
 let S':Nat->Prop:=fun B=>(∃o,h.f B=some o)/\(ψ.s b B∨g.f B=none)
 have st:=hr.Qr (Q':=pk []) (S':=S') hb hw hn hg (fun B ⟨⟨o,e⟩,k⟩=>⟨hwh B o e,k⟩) ⟨fun B hB=>hB.1,List.nodup_nil,fun c hc=>by cases hc⟩
 let ω:Ph:=⟨ψ.f,ψ.z,ψ.y,fun x=>if x=b then S' else ψ.s x⟩
 have st:HR ω (H.set (some (.sep (pk []))) aa b) n h0 h:=st;have lw:PLe φ ω:=⟨hle.b,hle.z,hle.y⟩
 have le0:fD (H.set none aa b) (H.set (some (.sep (pk []))) aa b):=fun x o hx=>by
  rcases F1 hx with⟨_,q⟩|⟨q1,q2⟩
  ·cases q
  ·exact PM.aC aa _ _ _ (aD hbn) q1 q2
 have s0:=st.less le0;rcases hs with⟨hf,hκ⟩|⟨c,o,m,k,x,l,z,rfl,hc,hl,hκ⟩
 ·exact hk ω _ _ _ _ _ lw s0 (hf χ ω u hu) hκ
 ·rcases hx.live c _ hc with⟨c1,c2⟩|⟨p,ob,c1,c2,c3,c4⟩
  ·have hvoid:(AO.cells l z).void=true:=c2;have:=s0.yV (o:= .cells l z) hvoid;refine hk ω _ _ _ _ _ lw this ?_ hκ;simp only[VR]at hu⊢;rcases hu with q|⟨p,a,C,q,_⟩
   ·exact .inl q
   ·rw[c1]at q;cases q
  ·have c2:h1.f p.B=none:=c2;have hS:S' p.B:=⟨⟨ob,c3⟩,h1s p.B c2 ⟨ob,c3⟩⟩;have hsep:(H.set (some (.sep (pk []))) aa b).get b=some (.sep (pk [])):=PM.bF aa _ _ (aD hbn);obtain⟨k1,k2,k3,k4⟩:=(st.sep b _ hsep).2 p.B (by show(if b=b then S' else ψ.s b) p.B;rw[if_pos rfl];exact hS)
   obtain⟨θ,t1,t2,t3⟩:=s0.R3 (p:=p) (o:= .cells l z) (ob:=ob) rfl rfl k1 c3 (vO hl c4) (fun b' o' p' e1 e2 e3=>k2 b' o' p' (le0 _ _ e1) e2 e3) k3 (fun b' Q' e1 e2=>by
    rcases F1 e1 with⟨_,q⟩|⟨q1,q2⟩
    ·cases q
    ·exact k4 b' Q' (le0 _ _ e1) q1 e2)
   refine hk θ _ _ _ _ _ (lw.trans t1) t3 ?_ hκ;simp only[VR]at hu⊢;rcases hu with q|⟨p',a,C,q,q2⟩
   ·exact .inl q
   ·rw[c1]at q;injection q with q;subst q;exact .inr ⟨p,a,C,t2,q2⟩
theorem Qt {f:FuncId} {call cd:CP} (hic:bW Tryz.prog f=true) (hcall:nS call) (hcd:nS cd) (hcs:tf cd):ai f (RfG call cd f):=by
 intro args H n κ hs φ h0 h vs K hr hargs hk;unfold RfG at hs;split at hs
 case h_2=>exact hs.elim
 rename_i fn hfn;split at hs
 case h_2=>exact hs.elim
 rename_i c hb;split at hs
 case h_2=>exact hs.elim
 rename_i r hrc;obtain⟨hok,hlen,hs⟩:=hs;have hc:=LO hrc;simp only[RfC.ok,Bool.and_eq_true]at hok;obtain⟨⟨⟨⟨⟨⟨⟨⟨⟨⟨⟨⟨⟨⟨⟨⟨cA,cB⟩,cC⟩,cE⟩,cca⟩,ccb⟩,dca⟩,dcb⟩,dE⟩,dP⟩,sA⟩,sB⟩,sC⟩,sE⟩,sca⟩,scb⟩,st⟩:=hok;have st:r.t<fn.ntmps:=by simpa using st
 have dsOf:∀{c:Code},((aF c).all fun t=>decide (t<fn.ntmps))=true->∀t∈aF c,t<fn.ntmps/\(aF c).contains t=true:=fun hq t ht=>⟨by simpa using List.all_eq_true.1 hq t ht,by simpa using ht⟩
 refine⟨hic,fun w hi=>(callsIn_wide (n:=0)).1 (callsIn_of_wp_marks hfn hb trivial ?_)⟩;have hal:=hargs.length;have hsz:vs.size<=fn.ntmps:=by simpa[hal]using hlen
 have hpre:=ju hcall hcd hcs (D:=[]) (p:=n) (φ0:=φ) (fun b q e=>(hr.dom b q e).1) (.seq r.A (.seq r.B r.C)) dP φ _ H n _ _ _ (iA vs.toList 0) h
  (fun ρ1 h1=>∃φ1 σ1 H1 n1,PLe φ φ1/\HR φ1 H1 n1 h0 h1/\FR φ1 σ1 ρ1/\RfS r fn.ntmps fn.results.toList call cd κ σ1 H1 n1) (fun _ _=>False) (fun _ _ _=>False) (PLe.refl _) hr (AU hargs) hs
  (fun ψ σ1 H1 n1 ρ1 h1 l1 r1 f1 k=>⟨ψ,σ1,H1,n1,l1,r1,f1,k⟩) (fun _ _ _ _ _ _ _ _ _ k=>k.elim) (fun i _ _ _ _ _ _ _ _ _ k=>k.elim)
 subst hc;have rel0:nG [] fn.ntmps ⟨vs++Array.replicate (fn.ntmps-vs.size) undef,[]⟩ (iA vs.toList 0):=xc hsz;refine wpIn_seq (wpIn_mono (jc (r:=none) (d:=[]) (w0:=w) r.A cA _ (dsOf sA) _ _ _ _ _ h _ w hpre rel0 hi (bG.refl w) (fun _ _=>rfl)) fun e a1 w1 hq=>?_);cases e with
 |ret=>obtain⟨_,_,_,_,_,_,k⟩:=hq;exact k.elim
 |exit i=>obtain⟨_,_,_,_,_,_,k⟩:=hq;exact k.elim
 |goto i=>exact hq.elim
 |panic i=>exact hq.elim
 |outgrown=>exact hq.elim
 |normal=>
 obtain⟨ρ1,h1,rel1,hi1,hs1,_,hB⟩:=hq;refine wpIn_seq (wpIn_mono (jc (r:=none) (d:=[]) (w0:=w) r.B cB _ (dsOf sB) _ _ _ _ _ h1 _ w1 hB rel1 hi1 hs1 (fun _ _=>rfl)) fun e a2 w2 hq=>?_);cases e with
 |ret=>obtain⟨_,_,_,_,_,_,k⟩:=hq;exact k.elim
 |exit i=>obtain⟨_,_,_,_,_,_,k⟩:=hq;exact k.elim
 |goto i=>exact hq.elim
 |panic i=>exact hq.elim
 |outgrown=>exact hq.elim
 |normal=>
 obtain⟨ρ2,h2,rel2,hi2,hs2,_,hC⟩:=hq;refine wpIn_seq (wpIn_seq (wpIn_mono (jc (r:=none) (d:=[]) (w0:=w) r.C cC _ (dsOf sC) _ _ _ _ _ h2 _ w2 hC rel2 hi2 hs2 (fun _ _=>rfl)) fun e a3 w3 hq=>?_));cases e with
 |ret=>obtain⟨_,_,_,_,_,_,k⟩:=hq;exact k.elim
 |exit i=>obtain⟨_,_,_,_,_,_,k⟩:=hq;exact k.elim
 |goto i=>exact hq.elim
 |panic i=>exact hq.elim
 |outgrown=>exact hq.elim
 |normal=>
 obtain⟨ρ3,h3,rel3,hi3,hs3,_,φ1,σ1,H1,n1,l1,r1,f1,hnb,gf,first,ts,Hi,He,σj,Hj,nj,hgt,hts,hgi,hge,hio,hcov,hS⟩:=hq;refine wpIn_block (wpIn_rangeFunc fun gg hgg=>?_);have e3:=hi3.1;obtain⟨D,hD⟩:∃D,D=w3.heap.size:=⟨_,rfl⟩;obtain⟨L,hL⟩:∃L,L=w3.heap.size+1:=⟨_,rfl⟩;have hDL:D≠L:=by omega
 let rcd:Loop:={state:= .ready,pending:=none,fn:=gg,tmps:=a3.tmps,params:=⟨[r.t]⟩,assign:=r.ca,body:=r.cb,defers:=w3.heap.size}
 let h4:Hp:=(((h3.put h3.n (.deferred (some []))).to (h3.n+1)).put (h3.n+1) (.loop rcd)).to (h3.n+2)
 let w4:World:=(w3.alloc (.deferred (some []))).alloc (.loop rcd)
 have hi4:Is w4 h4:=(hi3.push _).push _;have hs4:bG w w4:=hs3.trans ((bG.push _ _).trans (bG.push _ _))
 have h4L:h4.f L=some (.loop rcd):=by
  rw[show L=h3.n+1 from by omega];exact bO _ _ _
 have h4D:h4.f D=some (.deferred (some [])):=by
  rw[show D=h3.n from by omega];show((h3.put h3.n (.deferred (some []))).put (h3.n+1) (.loop rcd)).f h3.n=_;rw[aR _ _ _ _ (by omega)];exact bO _ _ _
 have h4o:∀B o,h3.f B=some o->h4.f B=some o:=fun B o e=>by
  have:=hi3.lt e;show((h3.put h3.n (.deferred (some []))).put (h3.n+1) (.loop rcd)).f B=_;rw[aR _ _ _ _ (by omega),aR _ _ _ _ (by omega)];exact e
 have hρ:∀t,rcd.tmps.getD t undef=ρ3 t:=rel3.2.2;have hrs:rcd.tmps.size=fn.ntmps:=rel3.2.1;have hY:Nk L (R4 L D n1 r.t r.ca r.cb rcd σj ρ3 call cd):=OB (rec:=rcd) hcall hcd hcs hDL rfl cca ccb dca dcb (by rw[hrs];exact sca) (by rw[hrs];exact scb) (by rw[hrs];exact st) hρ
 let hb0:=kR L D rcd .ready none
 have hb0s:∀B o,hb0.f B=some o->(B=L∨B=D)/\h4.f B=some o:=fun B o e=>by
  by_cases kL:B=L
  ·subst kL;rw[show hb0.f B=_ from sj _ _ _ _ _]at e;exact⟨.inl rfl,h4L.trans e⟩
  ·by_cases kD:B=D
   ·subst kD;rw[show hb0.f B=_ from sm hDL _ _ _]at e;exact⟨.inr rfl,h4D.trans e⟩
   ·rw[show hb0.f B=none from zA kL kD _ _ _]at e;cases e
 have hb0n:∀B o,h3.f B=some o->hb0.f B=none:=fun B o e=>by
  have:=hi3.lt e;exact zA (by omega) (by omega) _ _ _
 let S:Nat->Prop:=fun B=>(∃b o p ob,Hi.get b=some o/\φ1 b=some p/\p.B=B/\h3.f B=some ob)∨B=L∨B=D
 let φi:Ph:=⟨φ1.f,fun _=>False,fun _=>False,fun _ _=>False⟩
 have hex:∀B,S B->∃o,h4.f B=some o:=fun B hB=>by
  rcases hB with⟨_,_,_,ob,_,_,_,e⟩|rfl|rfl
  ·exact⟨ob,h4o _ _ e⟩
  ·exact⟨_,h4L⟩
  ·exact⟨_,h4D⟩
 have is:∀B,S B->(inS S h4).f B=h4.f B:=fun B e=>if_pos e
 have n34:h3.n<=h4.n:=by show h3.n<=h3.n+2;omega
 have hii:HR φi Hi n1 hb0 (inS S h4):=by
  refine⟨fun x q hx=>⟨(r1.dom x q hx).1,Nat.lt_of_lt_of_le (r1.dom x q hx).2 n34⟩,fun x o hx=>?_,fun x y o o' q q' hx hy w1 w2=>r1.inj x y o o' q q' (hgi _ _ hx) (hgi _ _ hy) w1 w2,fun B o e=>⟨hi4.lt (hb0s B o e).2,(is B (.inr (hb0s B o e).1)).trans (hb0s B o e).2⟩,Nat.zero_le _,fun q hq=>hq.elim,fun x Q hx=>?_⟩
  ·rcases r1.live x o (hgi _ _ hx)with k|⟨p,ob,k1,k2,k3,k4⟩
   ·exact .inl k
   ·refine .inr ⟨p,ob,k1,?_,(is _ (.inl ⟨x,o,p,ob,hx,k1,rfl,k3⟩)).trans (h4o _ _ k3),vO (hio x o hx).1 k4⟩;rw[AO.bA (oh (hio x o hx).1).1];exact hb0n _ _ k3
  ·have:=(oh (hio x _ hx).1).2;cases this
 have fi:FR φi (ky σ1 ts) ρ3:=kC fun t ht=>LN (φ:=φ1) (ψ:=φi) (List.all_eq_true.1 hts t ht) (fun _ _ h=>h) (f1.at t)
 have sub4:∀B o,(inS S h4).f B=some o->S B/\h4.f B=some o:=fun B o e=>by
  by_cases k:S B
  ·rw[is B k]at e;exact⟨k,e⟩
  ·have:(inS S h4).f B=none:=if_neg k;rw[this]at e;cases e
 obtain⟨χ,⟨_,_,cy⟩,hij,fj⟩:=hcov φi hb0 (inS S h4) ρ3 hii fi;have hP:(Cb hb0 σj ρ3 Hj nj).P φ1.z S h4:=⟨hex,χ,inS S h4,Nat.le_refl _,sub4,fun q hq=>cy q hq,hij,fj⟩;have r4:HR φ1 He n1 h0 h4:=(r1.less hge).ext n34 h4o;have big:∀B,B=L∨B=D->h3.n<=B/\B<h4.n:=fun B k=>⟨by omega,by show B<h3.n+2;omega⟩
 obtain⟨le4,r5⟩:=r4.oZ hP fun B hB=>by
  rcases hB with⟨b,o,p,ob,k1,k2,k3,k4⟩|k
  ·have hw:=(oh (hio b o k1).1).1;refine⟨⟨Nat.lt_of_lt_of_le (hi3.lt k4) n34,?_⟩,fun b' o' p' e1 e2 e3 e4=>?_,fun q hq e=>?_,fun b' Q' e1 e2=>?_⟩
   ·rcases r1.live b o (hgi _ _ k1)with⟨k,_⟩|⟨p',ob',k5,k6,_,_⟩
    ·rw[k]at k2;cases k2
    ·rw[k5]at k2;injection k2 with k2;subst k2;rw[AO.bA hw,k3]at k6;exact k6
   ·have:=r1.inj b' b o' o p' p (hge _ _ e1) (hgi _ _ k1) e2 hw e3 k2 (e4.trans k3.symm);subst this;rw[(hio b' o k1).2]at e1;cases e1
   ·exact(r1.frz q hq).2 b o p (hgi _ _ k1) hw k2 (k3.trans e.symm)
   ·exact((r1.sep b' Q' (hge _ _ e1)).2 B e2).2.1 b o p (hgi _ _ k1) hw k2 k3
  ·obtain⟨b1,b2⟩:=big B k;refine⟨⟨b2,?_⟩,fun b' o' p' e1 e2 e3 e4=>?_,fun q hq e=>?_,fun b' Q' e1 e2=>?_⟩
   ·cases e:h0.f B with
    |none=>rfl
    |some o=>have:=(r1.base B o e).1;omega
   ·have:=(r1.dom b' p' e3).2;omega
   ·have:=(r1.frz q hq).1.1.1.1;omega
   ·have:=((r1.sep b' Q' (hge _ _ e1)).2 B e2).1.1;omega
 have hgv:=f1.at r.gt;rw[hgt]at hgv;obtain⟨xs,cs,hv,hx,hcv⟩:=hgv.mF;have hcv:cs= #[]:=Array.ext' hcv.aM;subst hcv
 have hcf:=hcall gf _ _ _ _ (hS L D rcd ρ3 hY) _ h0 h4 (xs++ #[.func (.yield L) #[] #[]]) (fun u g=>∃ψ H2 n2,PLe ⟨φ1.f,φ1.z,φ1.y,fun x=>if x=n1 then S else φ1.s x⟩ ψ/\HR ψ H2 n2 h0 g/\RfE L D n1 r fn.results.toList rcd σj ρ3 call cd κ H2 n2) r5
  (by rw[Array.toList_append];exact(VRs.mono le4 _ _ hx).append (.cons rfl .nil)) fun ψ v H2 n2 u g le hg hu k=>⟨ψ,H2,n2,le,hg,k⟩
 have hev:a3.eval (.tmp r.gt)= .func (.func gf) xs #[]:=by rw[rel3.eval];exact hv
 refine⟨L,[{target:= .collected w3.heap.size,args:= #[]}],w4,{target:= .fn (.func gf) #[],args:=xs++ #[.func (.yield L) #[] #[]]},w4,gf,xs++ #[.func (.yield L) #[] #[]],w4,?_,?_,fun _ _=>trivial,?_,fun q=>Bool.noConfusion q,?_⟩
 ·rw[hL];exact run_enterLoop_outer _ _ _ _ _
 ·simp only[resolve,rangeCall,hev,Deferred.ofValue,Sem.run_pure,List.map_toArray,List.map_cons,List.map_nil];rfl
 ·(try simp only[invoke])
  rw[mz hcf.1];simp
 refine callsIn_wide.2 ((hcf.2 w4 hi4).mono fun e w5 ⟨v5,g5,he,hi5,hs5,ψ,H2,n2,le5,r6,st6,pd,Hx,nx,hb2,hst,hpd,hox,hE⟩=>?_);subst he;obtain⟨⟨hex6,φx,g6,hgn6,hsub6,hy6,rx,fx⟩,hc6⟩:=r6.sep n1 _ hb2;have gL:=hsub6 _ _ (rx.base L _ (sj L D rcd st6 pd)).2;have gD:=hsub6 _ _ (rx.base D _ (sm hDL rcd st6 pd)).2
 let exh:Obj:= .loop {dR rcd st6 pd with state:= .exhausted}
 have r7:=rx.lift hi5.wf hgn6 hsub6 hy6;have bL:(og (ψ.s n1) (kR L D rcd st6 pd) g5).f L=some (.loop (dR rcd st6 pd)):=(jX fun k=>by rw[sj]at k;cases k.2).trans gL.2;have bD:(og (ψ.s n1) (kR L D rcd st6 pd) g5).f D=some (.deferred (some [])):=(jX fun k=>by rw[sm hDL]at k;cases k.2).trans gD.2;have r8:=r7.zy (o':=exh) bL hox hy6;have hi6:Is (w5.putObj L exh) (g5.put L exh):=hi5.putObj gL.2;have hs6:bG w (w5.putObj L exh):=(hs4.trans hs5).trans (bG.putObj _ _ _)
 have hEs:=ju hcall hcd hcs (D:=[]) (p:=nx) (φ0:=φx) (fun b q e=>(rx.dom b q e).1) r.E dE φx _ Hx nx _ _ _ ρ3 (g5.put L exh)
  (fun _ _=>False) (fun ρ7 h7=>∃φ7 σ7 H7 n7,PLe φx φ7/\HR φ7 H7 n7 ((og (ψ.s n1) (kR L D rcd st6 pd) g5).put L exh) h7/\FR φ7 σ7 ρ7/\c8 H7/\A0 fn.results.toList σ7 H7 fun vs=>RfR n1 κ H2 n2 H7 (xg vs)) (fun _ _ _=>False) (PLe.refl _) r8 fx hE
  (fun _ _ _ _ _ _ _ _ _ k=>k.elim) (fun φ7 σ7 H7 n7 ρ7 h7 l7 r7 f7 ⟨o7,k⟩=>⟨φ7,σ7,H7,n7,l7,r7,f7,o7,k⟩) (fun i _ _ _ _ _ _ _ _ _ k=>k.elim)
 have rel6:nG [{target:= .collected w3.heap.size,args:= #[]}] fn.ntmps {a3 with defers:=[{target:= .collected w3.heap.size,args:= #[]}]++a3.defers} ρ3:=⟨by simp[rel3.1],rel3.2⟩
 have tail:r.E.wpIn Fence.wide 0 Tryz.prog (bodyPostM Fence.wide 0 Tryz.prog fn fun e w'=>∃v h',e= .returned v/\Is w' h'/\bG w w'/\K v h') {a3 with defers:=[{target:= .collected w3.heap.size,args:= #[]}]++a3.defers} (w5.putObj L exh):=by
  refine wpIn_mono (jc (r:=none) (d:=[{target:= .collected w3.heap.size,args:= #[]}]) (w0:=w) r.E cE _ (dsOf sE) _ _ _ _ _ _ _ _ hEs rel6 hi6 hs6 (fun _ _=>rfl)) fun e a7 w7 hq=>?_
  cases e with
  |normal=>obtain⟨_,_,_,_,_,_,k⟩:=hq;exact k.elim
  |exit i=>obtain⟨_,_,_,_,_,_,k⟩:=hq;exact k.elim
  |ret=>
   obtain⟨ρ7,h7,rel7,hi7,hs7,_,φ7,σ7,H7,n7,l7,r9,f7,o7,hres⟩:=hq;have y7:∀q,¬φ7.y q:=fun q hq=>hy6 q (l7.y q hq)
   have bD2:((og (ψ.s n1) (kR L D rcd st6 pd) g5).put L exh).f D=some (.deferred (some [])):=(aR _ _ _ _ hDL).trans bD;have hD7:=(r9.base D _ bD2).2;have r10:=r9.zy (o':= .deferred none) bD2 o7 y7;have hi8:Is (w7.putObj D (.deferred none)) (h7.put D (.deferred none)):=hi7.putObj hD7;have hw8:=hi7.2 _ _ hD7;have hrk:tD Tryz.prog fn.results.toList [] ρ7 (h7.put D (.deferred none)) K:=mM r10 f7 _ [] _ hres fun ws us k hus=> .here (R5 (by omega) hk (l1.trans (le4.trans le5)) r6 hb2 hi5.wf hi8.wf r10.size (fun B o e k=>?_) r10 (fun B e _=>?_) (by simpa using AW hus) k)
   ·obtain⟨ws,q1,g',q2,q3⟩:=mE rel7.rel hi8.2 fn.results.toList [] hrk;show LeavesInM Fence.wide 0 Tryz.prog fn a7.tmps _ a7.defers .returning w7;rw[rel7.1];refine⟨by simp,.inl ⟨w3.heap.size,w7.putObj D (.deferred none),rfl,hD▸run_takeDeferred hw8,?_⟩⟩;exact⟨_,qw q1,_,g',rfl,hi8.sub q2,hs7.trans (bG.putObj _ _ _),q3⟩
   ·have kL:B≠L:=fun q=>k (q▸gL.1)
    have kD:B≠D:=fun q=>k (q▸gD.1)
    refine(r10.base B o ?_).2;rw[aR _ _ _ _ kD,aR _ _ _ _ kL,jX fun q=>k q.1];exact e
   ·by_cases k:ψ.s n1 B
    ·exact .inl k
    ·have kL:B≠L:=fun q=>k (q▸gL.1)
     have kD:B≠D:=fun q=>k (q▸gD.1)
     rw[aR _ _ _ _ kD,aR _ _ _ _ kL,jX fun q=>k q.1]at e;exact .inr e
  |_=>exact hq.elim
 refine⟨pd,_,run_endLoop (hi5.2 _ _ gL.2) hst,?_⟩;rcases hpd with rfl|rfl
 ·exact tail
 ·exact wpIn_exit (by
   show Exit.inBlock r.id _ (.exit r.id) _ _;simp only[Exit.inBlock,if_true];exact tail)
noncomputable def KRf:FuncId->EP:=aw 119 zl evP
theorem sq:aW KRf:=ae az RF
abbrev cRg:CP:=ax KRf 5
theorem F2 {t v:Int}:∀(φ ψ:Ph) (u:Value),VR φ (.agg [.si .i64 t,.si .i64 v]) u->VR ψ (.agg [.si .i64 t,.si .i64 v]) u:=fun φ ψ u h=>by
 obtain⟨cs,rfl,h1⟩:=h.dC;exact .agg (oI rfl h1)
noncomputable def rgI (a b:Int) (O:Smp):AH:=mkH [(3,.cells [.si .i64 a] true),(4,.cells [.si .i64 b] true),(5,.cells [.rw 6 0 O.length 2 0] true),(6,.cells (smp O) true)]
noncomputable def rgE:AE:=mkE [(4,.ptr 3 0),(5,.ptr 4 0),(7,.ptr 5 0)]
noncomputable def ecM (S:Sr) (C:Ck5) (Q:HP):AH:=mkH [(0,.cells (cR S 1 (pts C).length) true),(1,.cells (aU (pts C)) true),(2,di S C),(6,.sep Q)]
theorem dt {l:List (Nat×AO)} (h:(l.all fun x=>x.2.own)=true):c8 (mkH l):=fun b o e=>List.all_eq_true.1 h _ (b7 e)
theorem c8.set {H:AH} {d n:Nat} {o:AO} (h:c8 H) (ho:o.own=true):c8 (PM.set (some o) d H n):=fun b o' e=>by
 rcases PM.aj d H n b o' e with⟨_,q⟩|⟨_,q⟩
 ·injection q with q;subst q;exact ho
 ·exact h b o' q
theorem c8.del {H:AH} {d n:Nat} (h:c8 H):c8 (PM.set none d H n):=fun b o' e=>by
 rcases PM.aj d H n b o' e with⟨_,q⟩|⟨_,q⟩
 ·cases q
 ·exact h b o' q
theorem F3 {σ:AE} {H:AH} {n k:Nat} {a b:Int} {O:Smp} {l3 l4:List AV} {l:AV} (e4:ak (pa 4) σ= .ptr 3 0) (e5:ak (pa 5) σ= .ptr 4 0) (e7:ak (pa 7) σ= .ptr 5 0) (h3:PM.get H 3=some (.cells l3 true)) (g3:l3.map mk=[.si .i64 a]) (h4:PM.get H 4=some (.cells l4 true)) (g4:l4.map mk=[.si .i64 b])
 (h5:PM.get H 5=some (.cells [l] true)) (hl:ah H 7 (fun c=>if c=6 then k else c) l (.rw 6 0 O.length 2 0)) (h6:(∃l6,PM.get H k=some (.cells l6 true)/\l6.map mk=smp O)∨(O=[]/\n<=k)) (hk:k≠3/\k≠4/\k≠5):Cov 0 σ H n (rgE,rgI a b O,7):=by
 refine Cov.ofR (m:=7) (p:=0) (fun c=>if c=6 then k else c) (Nat.zero_le _) (fun b hb=>absurd hb (Nat.not_lt_zero b)) (fun x hx=>?_) (fun x hx=>?_) (fun x hx y hy e=>?_)
 ·simp only[List.mem_cons,List.not_mem_nil,or_false]at hx;rcases hx with rfl|rfl|rfl
  ·exact ah.ptr (by decide) e4
  ·exact ah.ptr (by decide) e5
  ·exact ah.ptr (by decide) e7
 ·simp only[List.mem_cons,List.not_mem_nil,or_false]at hx;rcases hx with rfl|rfl|rfl|rfl
  ·exact⟨Nat.le_of_ble_eq_true rfl,.inl ⟨_,h3,au.bz rfl g3 id⟩⟩
  ·exact⟨Nat.le_of_ble_eq_true rfl,.inl ⟨_,h4,au.bz rfl g4 id⟩⟩
  ·refine⟨Nat.le_of_ble_eq_true rfl,.inl ⟨_,h5,au.cells (Nat.le_refl _) id fun i a' hi=>?_⟩⟩
   match i,hi with
   |0,hi=>injection hi with hi;subst hi;exact⟨_,rfl,hl⟩
   |i+1,hi=>simp at hi
  ·refine⟨Nat.le_of_ble_eq_true rfl,h6.elim (fun⟨l6,q1,q2⟩=> .inl ⟨_,q1,au.bz (b6 _) (by rw[q2,bJ]) id⟩) (fun q=> .inr ⟨by rw[q.1];rfl,q.2⟩)⟩
 ·simp only[List.mem_cons,List.not_mem_nil,or_false]at hx hy;rcases hx with rfl|rfl|rfl|rfl<;>rcases hy with rfl|rfl|rfl|rfl<;>simp at e⊢<;>omega
theorem Cc {σ:AE} {H:AH} {n:Nat} {S:Sr} {C:Ck5} {Q:HP} (le:List (Nat×AV)) (he:∀x∈le,ah H 7 (fun b=>b) (ak (pa x.1) σ) x.2) (h0:PM.get H 0=some (.cells (cR S 1 (pts C).length) true)) (h1:PM.get H 1=some (.cells (aU (pts C)) true)) (h2:PM.get H 2=some (di S C)) (h6:PM.get H 6=some (.sep Q)):Cov 7 σ H n (mkE le,ecM S C Q,7):=by
 refine Cov.ofR (m:=7) (p:=7) (fun b=>b) (Nat.le_refl _) (fun b hb=>rfl) he ?_ (fun x hx y hy e=>e);intro x hx;simp only[List.mem_cons,List.not_mem_nil,or_false]at hx;rcases hx with rfl|rfl|rfl|rfl
 ·exact⟨Nat.le_of_ble_eq_true rfl,.inl ⟨_,h0,au.cR rfl rfl rfl rfl rfl (ah.rw (Nat.le_of_ble_eq_true rfl) rfl)⟩⟩
 ·exact⟨Nat.le_of_ble_eq_true rfl,.inl ⟨_,h1,au.aU (aA _)⟩⟩
 ·exact⟨Nat.le_of_ble_eq_true rfl,.inl ⟨_,h2,au.sep _⟩⟩
 ·exact⟨Nat.le_of_ble_eq_true rfl,.inl ⟨_,h6,au.sep _⟩⟩
def wU (L:Nat):AV:= .any (.func (.yield L) #[] #[])
abbrev lo1 (C:Ck5) (L i:Nat):List (Nat×AV):=[(1,wU L),(14,.rw 1 0 (pts C).length 1 0),(15,.si .i64 ((pts C).length:Int)),(16,.si .i64 (i:Int))]
abbrev lo2 (C:Ck5) (L i:Nat) (X:Smp) (j:Nat):List (Nat×AV):=[(1,wU L),(14,.rw 1 0 (pts C).length 1 0),(15,.si .i64 ((pts C).length:Int)),(16,.si .i64 (i:Int)),(21,.fr X.length 2 (smp X)),(22,.si .i64 (X.length:Int)),(23,.si .i64 (j:Int))]
theorem F4 {H:AH} {σ:AE} {C:Ck5} {L i:Nat} (e1:ak (pa 1) σ=wU L) (e14:ak (pa 14) σ= .rw 1 0 (pts C).length 1 0) (e15:mk (ak (pa 15) σ)= .si .i64 ((pts C).length:Int)) (e16:mk (ak (pa 16) σ)= .si .i64 (i:Int)):∀x∈lo1 C L i,ah H 7 (fun b=>b) (ak (pa x.1) σ) x.2:=fun x hx=>by
 simp only[List.mem_cons,List.not_mem_nil,or_false]at hx;rcases hx with rfl|rfl|rfl|rfl
 ·show ah H 7 _ (ak (pa 1) σ) (wU L);rw[e1];exact fun _ _ _ _ _ h=>h
 ·exact ah.rw (Nat.le_of_ble_eq_true rfl) e14
 ·exact ah.int e15
 ·exact ah.int e16
theorem zC {H:AH} {σ:AE} {C:Ck5} {L i j:Nat} {X:Smp} (e1:ak (pa 1) σ=wU L) (e14:ak (pa 14) σ= .rw 1 0 (pts C).length 1 0) (e15:mk (ak (pa 15) σ)= .si .i64 ((pts C).length:Int)) (e16:mk (ak (pa 16) σ)= .si .i64 (i:Int)) (e21:ak (pa 21) σ= .fr X.length 2 (smp X)) (e22:mk (ak (pa 22) σ)= .si .i64 (X.length:Int)) (e23:mk (ak (pa 23) σ)= .si .i64 (j:Int)):∀x∈lo2 C L i X j,ah H 7 (fun b=>b) (ak (pa x.1) σ) x.2:=fun x hx=>by
 simp only[List.mem_cons,List.not_mem_nil,or_false]at hx;rcases hx with rfl|rfl|rfl|rfl|rfl|rfl|rfl
 ·show ah H 7 _ (ak (pa 1) σ) (wU L);rw[e1];exact fun _ _ _ _ _ h=>h
 ·exact ah.rw (Nat.le_of_ble_eq_true rfl) e14
 ·exact ah.int e15
 ·exact ah.int e16
 ·exact ah.frE e21
 ·exact ah.int e22
 ·exact ah.int e23
def geF (a:Int) (X:Smp):Smp:=X.filter fun x=>decide (a<=x.1)
noncomputable abbrev rgQ (L D:Nat) (rec:Loop) (ρ:Env) (a b:Int) (X:Smp):HP:=Cb (kR L D rec .ready none) rgE ρ (rgI a b (geF a X)) 7
theorem oO {S:Sr} {C:Ck5} {i:Nat} (h:i<C.length):di S C= .sep (pk (chs S.sz (C.take i++(C[i].1,C[i].2)::C.drop (i+1)))):=by
 have:=fb h;unfold di;rw[this]
def bX (a b:Int) (X:Smp):Smp:=X.filter fun x=>decide (a<=x.1)&&decide (x.1<=b)
def RgP (S:Sr) (C:Ck5) (O:Smp):PK:=fun u H' m=>u= .rw 3 0 O.length 2 0/\H'=mkH [(0,.cells (cR S 1 (pts C).length) true),(1,.cells (aU (pts C)) true),(2,di S C),(3,.cells (smp O) true)]/\m=4
theorem Qu {H:AH} {n N:Nat} {S:Sr} {C:Ck5} {O X:Smp} (hN:3<=N) (hO:X=O) (h0:PM.get H 0=some (.cells (cR S 1 (pts C).length) true)) (h1:PM.get H 1=some (.cells (aU (pts C)) true)) (h2:PM.get H 2=some (di S C)) (h3:PM.get H N=some (.cells (smp X) true)):∃(v2:AV) (H2:AH) (m:Nat),Cov 3 (mkE [(0,.rw N 0 X.length 2 0)]) H n (mkE [(0,v2)],H2,m)/\RgP S C O v2 H2 m:=by
 subst hO;refine⟨.rw 3 0 X.length 2 0,_,4,?_,rfl,rfl,rfl⟩;refine Cov.ofR (m:=4) (p:=3) (fun c=>if c=3 then N else c) (by decide) (fun b hb=>if_neg (by omega)) (fun x hx=>?_) (fun x hx=>?_) (fun x hx y hy e=>?_)
 ·simp only[List.mem_cons,List.not_mem_nil,or_false]at hx;subst hx;exact ah.rw (Nat.le_of_ble_eq_true rfl) rfl
 ·simp only[List.mem_cons,List.not_mem_nil,or_false]at hx;rcases hx with rfl|rfl|rfl|rfl
  ·exact⟨Nat.le_of_ble_eq_true rfl,.inl ⟨_,h0,au.cR rfl rfl rfl rfl rfl (ah.rw (Nat.le_of_ble_eq_true rfl) rfl)⟩⟩
  ·exact⟨Nat.le_of_ble_eq_true rfl,.inl ⟨_,h1,au.aU (aA _)⟩⟩
  ·exact⟨Nat.le_of_ble_eq_true rfl,.inl ⟨_,h2,au.sep _⟩⟩
  ·exact⟨Nat.le_of_ble_eq_true rfl,.inl ⟨_,h3,au.bz (b6 _) rfl id⟩⟩
 ·simp only[List.mem_cons,List.not_mem_nil,or_false]at hx hy;rcases hx with rfl|rfl|rfl|rfl<;>rcases hy with rfl|rfl|rfl|rfl<;>simp at e⊢<;>omega
theorem VP:RTy 52 52 2 16:=⟨_,_,_,rfl,rfl,(fun q h=>by cases h),rfl,rfl,rfl,rfl,by decide,by decide⟩
theorem F5 {a b:Int} {X:Smp} (h:∀x∈X,x.1<=b):geF a X=bX a b X:=by
 refine List.filter_congr fun x hx=>?_
 have:=h x hx;simp[this]
theorem Ed {a b:Int} {X Y:Smp} {x:Int×Int} (hU:Up (X++x::Y)) (h:∀y∈X,y.1<=b) (hx:b<x.1):geF a X=bX a b (X++x::Y):=by
 unfold bX;rw[List.filter_append,F5 h]
 have:(x::Y).filter (fun y=>decide (a<=y.1)&&decide (y.1<=b))=[]:=List.filter_eq_nil_iff.2 fun y hy=>by
  have h2:=(List.pairwise_append.1 hU).2.1
  have:x.1<=y.1:=by
   rcases List.mem_cons.1 hy with rfl|hy
   ·exact Int.le_refl _
   ·exact Int.le_of_lt (List.rel_of_pairwise_cons h2 hy)
  simp only[Bool.and_eq_true,decide_eq_true_eq];omega
 rw[this,List.append_nil];rfl
theorem vQ {C:Ck5} {i:Nat} (h:i<C.length):ab (C.take (i+1))=ab (C.take i)++C[i].2:=by
 rw[List.take_succ_eq_append_getElem h,jb];congr 1;simp[ab,cnt]
theorem Cd {C:Ck5} {i j:Nat} (h:i<C.length) (hj:j<C[i].2.length):ab C=(ab (C.take i)++C[i].2.take j)++C[i].2[j]::(C[i].2.drop (j+1)++ab (C.drop (i+1))):=by
 have h1:=fb h;have h2:C[i].2=C[i].2.take j++C[i].2[j]::C[i].2.drop (j+1):=by rw[<-List.drop_eq_getElem_cons hj,List.take_append_drop]
 have h3:ab C=ab (C.take i)++(C[i].2++ab (C.drop (i+1))):=by
  have:=congrArg ab h1;rw[<-this,jb,bI]
 rw[h3];have h4:C[i].2++ab (C.drop (i+1))=(C[i].2.take j++C[i].2[j]::C[i].2.drop (j+1))++ab (C.drop (i+1)):=by rw[<-h2]
 rw[h4];simp only[List.append_assoc,List.cons_append]
theorem Iv (S:Sr) (C:Ck5) (a b:Int) (hO:Okc S C) (hU:Up (ab C)) (hf:(ab C).length<=100000):fG (RfG cRg (tc KRf) 21) [.ptr 0 0,.si .i64 a,.si .i64 b] (mkH (bH (iG S (pts C) C) 0)) 3 (RgP S C (bX a b (ab C))):=by
 have hl:=hO.few;have hlo:=hO.lo;show RfG cRg _ _ _ _ _ _
 conv=>whnf
 refine⟨by kernel_rfl,Nat.le_of_ble_eq_true rfl,?_⟩
 conv=>whnf
 refine⟨by decide,62,[.ptr 0 0],[4,5,7],mkH [(3,.cells [.si .i64 a] true),(4,.cells [.si .i64 b] true),(5,.cells [.nsl] true)],mkH [(0,.cells (cR S 1 (pts C).length) true),(1,.cells (aU (pts C)) true),(2,di S C)],rgE,rgI a b [],7,rfl,rfl,fun c o h=>?_,fun c o h=>?_,fun c o h=>?_,?_,fun L D rec ρ hY=>?_⟩
 ·have hm:=b7 h;simp only[List.mem_cons,List.not_mem_nil,or_false]at hm;rcases hm with hm|hm|hm<;>(injection hm with h1 h2;subst h1 h2;rfl)
 ·have hm:=b7 h;simp only[List.mem_cons,List.not_mem_nil,or_false]at hm;rcases hm with hm|hm|hm<;>(injection hm with h1 h2;subst h1 h2;rfl)
 ·have hm:=b7 h;simp only[List.mem_cons,List.not_mem_nil,or_false]at hm;rcases hm with hm|hm|hm<;>(injection hm with h1 h2;subst h1 h2;exact⟨rfl,rfl⟩)
 ·exact F3 (k:=6) rfl rfl rfl rfl rfl rfl rfl rfl (ah.iD rfl) (.inr ⟨rfl,Nat.le_refl _⟩) (by decide)
 conv=>whnf
 refine ag.dh (fun z=>absurd (show(0:Int)<(S.sz:Int) by omega) z) (fun _=>?_)
 conv=>whnf
 refine aS.mk {i:Nat//i<=C.length/\∀x∈ab (C.take i),x.1<=b} 7 (fun i=>(mkE (lo1 C L i.val),ecM S C (rgQ L D rec ρ a b (ab (C.take i.val))))) (fun i=>C.length-i.val) ⟨0,Nat.zero_le _,fun x hx=>by cases hx⟩ ?_ ?_
 focus
  exact Cc _ (F4 rfl rfl rfl rfl) rfl rfl rfl rfl
 intro⟨i,hi,hI⟩;have hw:IntKind.i64.wrap ((i:Int)+1)=((i+1:Nat):Int):=by rw[al (by omega) (by omega)];omega
 conv=>whnf
 refine ag.dec (fun h=>?_) (fun h=>?_)
 focus
  have h2:i<C.length:=by
   have h:(i:Int)<((pts C).length:Int):=h;rw[ao]at h;omega
  conv=>whnf
  refine Idx.mk i rfl (by rw[ao];exact h2) ?_
  conv=>whnf
  refine ay (dH h2 (show 0+i*1=i by omega)) ?_
  conv=>whnf
  refine⟨2,S.sz,C.take i,C.drop (i+1),C[i].1,C[i].2,rfl,congrArg some (oO h2),by omega,hO.dW _ (List.getElem_mem h2),?_⟩
  conv=>whnf
  refine aS.mk {j:Nat//j<=C[i].2.length/\∀x∈ab (C.take i)++C[i].2.take j,x.1<=b} 7 (fun j=>(mkE (lo2 C L i C[i].2 j.val),ecM S C (rgQ L D rec ρ a b (ab (C.take i)++C[i].2.take j.val)))) (fun j=>C[i].2.length-j.val) ⟨0,Nat.zero_le _,by simpa using hI⟩ ?_ ?_
  focus
   exact Cc _ (zC rfl rfl rfl rfl rfl rfl rfl) rfl rfl rfl (congrArg (fun X=>some (AO.sep (rgQ L D rec ρ a b X))) (List.append_nil _).symm)
  have hF:=(hO.dW _ (List.getElem_mem h2)).2.2;have fE:∀{j:Nat},j=C[i].2.length->ab (C.take i)++C[i].2.take j=ab (C.take (i+1)):=fun{j} e=>by rw[vQ h2,e,List.take_length]
  have hI2:∀{j:Nat},j=C[i].2.length->(∀x∈ab (C.take i)++C[i].2.take j,x.1<=b)->∀x∈ab (C.take (i+1)),x.1<=b:=fun{j} e k=>by rw[<-fE e];exact k
  intro⟨j,hj,hJ⟩;have hw2:IntKind.i64.wrap ((j:Int)+1)=((j+1:Nat):Int):=by rw[al (by omega) (by omega)];omega
  conv=>whnf
  refine ag.dec (fun h=>?_) (fun h=>?_)
  focus
   have h3:j<C[i].2.length:=by
    have h:(j:Int)<(C[i].2.length:Int):=h;omega
   have hat:=Cd h2 h3;have fT:C[i].2.take (j+1)=C[i].2.take j++ [C[i].2[j]]:=List.take_succ_eq_append_getElem h3;have fS:b<C[i].2[j].1->geF a (ab (C.take i)++C[i].2.take j)=bX a b (ab C):=fun z=>(Ed (hat▸hU) hJ z).trans (congrArg (bX a b) hat.symm)
   have hJ2:¬b<C[i].2[j].1->∀x∈ab (C.take i)++C[i].2.take (j+1),x.1<=b:=fun z x hx=>by
    rw[fT,<-List.append_assoc]at hx;rcases List.mem_append.1 hx with q|q
    ·exact hJ x q
    ·rw[List.mem_singleton.1 q];omega
   have fY:a<=C[i].2[j].1->(smp (geF a (ab (C.take i)++C[i].2.take j))++ [AV.si .i64 C[i].2[j].1,AV.si .i64 C[i].2[j].2]).map mk=smp (geF a (ab (C.take i)++C[i].2.take (j+1)))/\(geF a (ab (C.take i)++C[i].2.take j)).length+1=(geF a (ab (C.take i)++C[i].2.take (j+1))).length:=fun z=>by
    have:geF a (ab (C.take i)++C[i].2.take (j+1))=geF a (ab (C.take i)++C[i].2.take j)++ [C[i].2[j]]:=by
     rw[fT,<-List.append_assoc];unfold geF;rw[List.filter_append,List.filter_cons_of_pos (by simpa using z),List.filter_nil]
    rw[this,List.map_append,bJ];exact⟨by rw[qX];rfl,by simp⟩
   have fN:¬a<=C[i].2[j].1->geF a (ab (C.take i)++C[i].2.take j)=geF a (ab (C.take i)++C[i].2.take (j+1)):=fun z=>by
    rw[fT,<-List.append_assoc];generalize ab (C.take i)++C[i].2.take j=X;unfold geF;rw[List.filter_append,List.filter_cons_of_neg (by simpa using z),List.filter_nil,List.append_nil]
   have hbig:((geF a (ab (C.take i)++C[i].2.take j)).length+1)*16<=140737488355328:=by
    have h5:(geF a (ab (C.take i)++C[i].2.take j)).length<=(ab (C.take i)++C[i].2.take j).length:=List.length_filter_le _ _;have h6:=congrArg List.length hat;rw[List.length_append,List.length_cons]at h6;omega
   conv=>whnf
   refine Idx.mk j rfl h3 ?_
   conv=>whnf
   refine ay (fp h3 rfl) ?_
   conv=>whnf
   refine Yld.mk _ hY ⟨rgI a b (geF a (ab (C.take i)++C[i].2.take j)),7,_,rfl,rfl,F2,dt rfl,?_⟩
   conv=>whnf
   refine⟨((dt rfl).set rfl).set rfl,?_⟩
   conv=>whnf
   refine ag.dec (fun z=>?_) (fun z=>?_)
   focus
    conv=>whnf
    refine⟨((dt rfl).set rfl).set rfl,rgI a b (geF a (ab (C.take i)++C[i].2.take j)),7,F3 (k:=6) rfl rfl rfl rfl rfl rfl rfl rfl (ah.rw (Nat.le_of_ble_eq_true rfl) rfl) (.inl ⟨_,rfl,bJ _⟩) (by decide),dt rfl,?_⟩
    conv=>whnf
    refine⟨.done,some (.exit 0),rgI a b (geF a (ab (C.take i)++C[i].2.take j)),7,rfl,(fun q=>by cases q),.inr rfl,dt rfl,?_⟩
    conv=>whnf
    refine⟨dt rfl,?_⟩
    conv=>whnf
    exact .inr ⟨6,0,_,2,0,smp _,true,rfl,rfl,b6 _,Qu (N:=8) (by decide) (fS z) rfl rfl rfl rfl⟩
   conv=>whnf
   refine ag.dec (fun z2=>?_) (fun z2=>?_)
   focus
    conv=>whnf
    refine bC.grow 2 16 1 (geF a (ab (C.take i)++C[i].2.take j)).length [.si .i64 C[i].2[j].1,.si .i64 C[i].2[j].2] (smp (geF a (ab (C.take i)++C[i].2.take j))) _ true VP (.old rfl) rfl rfl (.rw rfl (fh _)) hbig ?_
    conv=>whnf
    refine⟨?_,rgI a b (geF a (ab (C.take i)++C[i].2.take (j+1))),7,F3 (k:=9) rfl rfl rfl rfl rfl rfl rfl rfl (ah.rw (Nat.le_of_ble_eq_true rfl) rfl (fY z2).2) (.inl ⟨_,rfl,(fY z2).1⟩) (by decide),dt rfl,?_⟩
    ·repeat first|exact dt rfl|refine c8.set ?_ rfl|refine c8.del ?_
    conv=>whnf
    exact⟨⟨j+1,h3,hJ2 z⟩,by show C[i].2.length-(j+1)<C[i].2.length-j;omega,Cc _ (zC rfl rfl rfl rfl rfl rfl (congrArg (AV.si .i64) hw2)) rfl rfl rfl rfl⟩
   conv=>whnf
   refine⟨?_,rgI a b (geF a (ab (C.take i)++C[i].2.take (j+1))),7,F3 (k:=6) rfl rfl rfl rfl rfl rfl rfl rfl (ah.rw (Nat.le_of_ble_eq_true rfl) rfl (congrArg List.length (fN z2))) (.inl ⟨_,rfl,(bJ _).trans (congrArg smp (fN z2))⟩) (by decide),dt rfl,?_⟩
   ·exact((dt rfl).set rfl).set rfl
   conv=>whnf
   exact⟨⟨j+1,h3,hJ2 z⟩,by show C[i].2.length-(j+1)<C[i].2.length-j;omega,Cc _ (zC rfl rfl rfl rfl rfl rfl (congrArg (AV.si .i64) hw2)) rfl rfl rfl rfl⟩
  have h4:j=C[i].2.length:=by
   have h:¬(j:Int)<(C[i].2.length:Int):=h;omega
  conv=>whnf
  exact⟨⟨i+1,h2,hI2 h4 hJ⟩,by show C.length-(i+1)<C.length-i;omega,Cc _ (F4 rfl rfl rfl (congrArg (AV.si .i64) hw)) rfl rfl rfl (congrArg (fun X=>some (AO.sep (rgQ L D rec ρ a b X))) (fE h4))⟩
 have h2:i=C.length:=by
  have h:¬(i:Int)<((pts C).length:Int):=h;rw[ao]at h;omega
 have fZ:geF a (ab (C.take i))=bX a b (ab C):=by
  rw[F5 hI,h2,List.take_length]
 conv=>whnf
 refine⟨.ready,none,rgI a b (geF a (ab (C.take i))),7,rfl,(fun q=>by cases q),.inl rfl,dt rfl,?_⟩
 conv=>whnf
 refine⟨dt rfl,?_⟩
 conv=>whnf
 exact .inr ⟨6,0,_,2,0,smp _,true,rfl,rfl,b6 _,Qu (N:=7) (by decide) fZ rfl rfl rfl rfl⟩
theorem OC (f:Nat->Nat) (L:Smp):du f (smp L)=smp L:=by
 induction L with
 |nil=>rfl
 |cons c L ih=>
  show AV.si .i64 c.1::AV.si .i64 c.2::du f (smp L)=_;rw[ih];rfl
theorem R6 (m:Nat) (L:Smp):jv m (smp L)=true:=by
 induction L with
 |nil=>rfl
 |cons c L ih=>exact ih
theorem Ee {f:FuncId} {run:List AV->AH->Nat->PK->Prop} (hrun:ai f run) (hic:bW Tryz.prog f=true) {ar0:List AV} {S:Sr} {C:Ck5} {O:Smp} (h:fG run (.ptr 0 0::ar0) (mkH (bH (iG S (pts C) C) 0)) 3 (RgP S C O)) (har:∀r,du r ar0=ar0)
 {φ:Ph} {H:AH} {n:Nat} {h0 hp:Hp} {vs:Array Value} {κ:PK} {K:KH} {r k q:Nat} (hr:HR φ H n h0 hp) (hR:ew H n r k q S (pts C) C) (hargs:VRs φ (.ptr r 0::ar0) vs.toList) (hk:ck φ h0 κ K) (hs:κ (.rw n 0 O.length 2 0) (PM.set (some (.cells (smp O) true)) aa H n) (n+1)):dj Tryz.prog f vs hp K:=by
 refine dy (S:=[r,k,q]) (O:=iG S (pts C) C) (args0:= .ptr 0 0::ar0) (ai.fG hrun) hic hr hR.BY (by show VRs φ (ren _ _::du _ ar0) vs.toList;rw[har];exact hargs) hk h fun u H' n' ⟨g0,g1,g2⟩=>?_
 subst g0 g1 g2;refine⟨4,PM.set (some (.cells (smp O) true)) aa H n,Nat.le_of_ble_eq_true rfl,fun b o hb=>?_,rfl,hs⟩;rcases PM.aj aa H n b o hb with⟨rfl,h2⟩|⟨h1,h2⟩
 ·injection h2 with h2;subst h2;exact .inl ⟨3,.cells (smp O) true,by decide,rfl,rfl,rfl,R6 _ _,by rw[cx,OC]⟩
 ·by_cases hb:b∈ [r,k,q]
  ·left;simp only[List.mem_cons,List.not_mem_nil,or_false]at hb;rcases hb with rfl|rfl|rfl
   ·rw[hR.hr]at h2;injection h2 with h2;subst h2;exact⟨0,_,by decide,rfl,rfl,rfl,rfl,rfl⟩
   ·rw[hR.hk]at h2;injection h2 with h2;subst h2;exact⟨1,_,by decide,rfl,rfl,rfl,oM _ _,by rw[cx,jx]⟩
   ·rw[hR.hq]at h2;injection h2 with h2;subst h2;exact⟨2,_,by decide,rfl,rfl,rfl,rfl,rfl⟩
  ·exact .inr ⟨by show b<n∨n+1<=b;omega,h2,fun q=>absurd q hb⟩
def LP (A:Sr->Ck5->List AV->Smp->Prop) (args:List AV) (H:AH) (n:Nat) (κ:PK):Prop:=match args with
 |x::ar=>∃(r k q:Nat) (S:Sr) (C:Ck5) (O:Smp),x= .ptr r 0/\ew H n r k q S (pts C) C/\(n<900000/\PM.get H n=none)/\A S C ar O/\κ (.rw n 0 O.length 2 0) (PM.set (some (.cells (smp O) true)) aa H n) (n+1)
 |_=>False
def Ui (S:Sr) (C:Ck5) (ar:List AV) (O:Smp):Prop:=∃y z a b,ar=[y,z]/\mk y= .si .i64 a/\mk z= .si .i64 b/\Okc S C/\Up (ab C)/\(ab C).length<=100000/\O=bX a b (ab C)
theorem Qv:bW Tryz.prog 21=true:=by kernel_rfl
theorem Uj:ai 21 (LP Ui):=fun args H n κ hs φ h0' hp vs K hr hargs hk=>by
 unfold LP at hs;split at hs
 ·obtain⟨w1,us1,q1,e1,r1⟩:=hargs.cons_inv;obtain⟨r,k,q,S,C,O,rfl,hR,hn,⟨y,z,a,b,rfl,hy,hz,hO,hU,hf,rfl⟩,hs⟩:=hs;obtain⟨w2,us2,q2,e2,r2⟩:=r1.cons_inv;obtain⟨w3,us3,q3,e3,r3⟩:=r2.cons_inv;exact Ee (Qt Qv (bR tab.mixed sq 5) (qH sq) (mN sq)) Qv (Iv S C a b hO hU hf) (fun _=>rfl) hr hR (by rw[q1,q2,q3];exact .cons e1 (.cons (ba rfl (hy▸e2.mk)) (.cons (ba rfl (hz▸e3.mk)) r3))) hk hs
 ·exact hs.elim
noncomputable def lnI (m:Nat):AH:=mkH [(3,.cells [.si .i64 (m:Int)] true)]
noncomputable def lnE:AE:=mkE [(3,.ptr 3 0)]
noncomputable def lcM (S:Sr) (C:Ck5) (Q:HP):AH:=mkH [(0,.cells (cR S 1 (pts C).length) true),(1,.cells (aU (pts C)) true),(2,di S C),(4,.sep Q)]
noncomputable abbrev lnQ (L D:Nat) (rec:Loop) (ρ:Env) (X:Smp):HP:=Cb (kR L D rec .ready none) lnE ρ (lnI X.length) 4
theorem Qw {σ:AE} {H:AH} {n m:Nat} {l3:List AV} (e3:ak (pa 3) σ= .ptr 3 0) (h3:PM.get H 3=some (.cells l3 true)) (g3:l3.map mk=[.si .i64 (m:Int)]):Cov 0 σ H n (lnE,lnI m,4):=by
 refine Cov.ofR (m:=4) (p:=0) (fun c=>c) (Nat.zero_le _) (fun b hb=>rfl) (fun x hx=>?_) (fun x hx=>?_) (fun x hx y hy e=>e)
 ·simp only[List.mem_cons,List.not_mem_nil,or_false]at hx;subst hx;exact ah.ptr (by decide) e3
 ·simp only[List.mem_cons,List.not_mem_nil,or_false]at hx;subst hx;exact⟨Nat.le_of_ble_eq_true rfl,.inl ⟨_,h3,au.bz rfl g3 id⟩⟩
theorem F6 {σ:AE} {H:AH} {n:Nat} {S:Sr} {C:Ck5} {Q:HP} (le:List (Nat×AV)) (he:∀x∈le,ah H 5 (fun b=>b) (ak (pa x.1) σ) x.2) (h0:PM.get H 0=some (.cells (cR S 1 (pts C).length) true)) (h1:PM.get H 1=some (.cells (aU (pts C)) true)) (h2:PM.get H 2=some (di S C)) (h6:PM.get H 4=some (.sep Q)):Cov 5 σ H n (mkE le,lcM S C Q,5):=by
 refine Cov.ofR (m:=5) (p:=5) (fun b=>b) (Nat.le_refl _) (fun b hb=>rfl) he ?_ (fun x hx y hy e=>e);intro x hx;simp only[List.mem_cons,List.not_mem_nil,or_false]at hx;rcases hx with rfl|rfl|rfl|rfl
 ·exact⟨Nat.le_of_ble_eq_true rfl,.inl ⟨_,h0,au.cR rfl rfl rfl rfl rfl (ah.rw (Nat.le_of_ble_eq_true rfl) rfl)⟩⟩
 ·exact⟨Nat.le_of_ble_eq_true rfl,.inl ⟨_,h1,au.aU (aA _)⟩⟩
 ·exact⟨Nat.le_of_ble_eq_true rfl,.inl ⟨_,h2,au.sep _⟩⟩
 ·exact⟨Nat.le_of_ble_eq_true rfl,.inl ⟨_,h6,au.sep _⟩⟩
theorem Ce {H:AH} {σ:AE} {C:Ck5} {L i:Nat} (e1:ak (pa 1) σ=wU L) (e14:ak (pa 14) σ= .rw 1 0 (pts C).length 1 0) (e15:mk (ak (pa 15) σ)= .si .i64 ((pts C).length:Int)) (e16:mk (ak (pa 16) σ)= .si .i64 (i:Int)):∀x∈lo1 C L i,ah H 5 (fun b=>b) (ak (pa x.1) σ) x.2:=fun x hx=>by
 simp only[List.mem_cons,List.not_mem_nil,or_false]at hx;rcases hx with rfl|rfl|rfl|rfl
 ·show ah H 5 _ (ak (pa 1) σ) (wU L);rw[e1];exact fun _ _ _ _ _ h=>h
 ·exact ah.rw (Nat.le_of_ble_eq_true rfl) e14
 ·exact ah.int e15
 ·exact ah.int e16
theorem Cf {H:AH} {σ:AE} {C:Ck5} {L i j:Nat} {X:Smp} (e1:ak (pa 1) σ=wU L) (e14:ak (pa 14) σ= .rw 1 0 (pts C).length 1 0) (e15:mk (ak (pa 15) σ)= .si .i64 ((pts C).length:Int)) (e16:mk (ak (pa 16) σ)= .si .i64 (i:Int)) (e21:ak (pa 21) σ= .fr X.length 2 (smp X)) (e22:mk (ak (pa 22) σ)= .si .i64 (X.length:Int)) (e23:mk (ak (pa 23) σ)= .si .i64 (j:Int)):∀x∈lo2 C L i X j,ah H 5 (fun b=>b) (ak (pa x.1) σ) x.2:=fun x hx=>by
 simp only[List.mem_cons,List.not_mem_nil,or_false]at hx;rcases hx with rfl|rfl|rfl|rfl|rfl|rfl|rfl
 ·show ah H 5 _ (ak (pa 1) σ) (wU L);rw[e1];exact fun _ _ _ _ _ h=>h
 ·exact ah.rw (Nat.le_of_ble_eq_true rfl) e14
 ·exact ah.int e15
 ·exact ah.int e16
 ·exact ah.frE e21
 ·exact ah.int e22
 ·exact ah.int e23
theorem OD (S:Sr) (C:Ck5) (hO:Okc S C) (hf:(ab C).length<=100000):fG (RfG cRg (tc KRf) 57) [.ptr 0 0] (mkH (bH (iG S (pts C) C) 0)) 3 (RoP (fun u=>u= .si .i64 ((ab C).length:Int)) S (pts C) C):=by
 have hl:=hO.few;have hlo:=hO.lo;show RfG cRg _ _ _ _ _ _
 conv=>whnf
 refine⟨by kernel_rfl,Nat.le_of_ble_eq_true rfl,?_⟩
 conv=>whnf
 refine⟨by decide,62,[.ptr 0 0],[3],mkH [(3,.cells [.int .i64 0] true)],mkH [(0,.cells (cR S 1 (pts C).length) true),(1,.cells (aU (pts C)) true),(2,di S C)],lnE,lnI 0,4,rfl,rfl,fun c o h=>?_,fun c o h=>?_,fun c o h=>?_,?_,fun L D rec ρ hY=>?_⟩
 ·have hm:=b7 h;simp only[List.mem_cons,List.not_mem_nil,or_false]at hm;injection hm with h1 h2;subst h1 h2;rfl
 ·have hm:=b7 h;simp only[List.mem_cons,List.not_mem_nil,or_false]at hm;rcases hm with hm|hm|hm<;>(injection hm with h1 h2;subst h1 h2;rfl)
 ·have hm:=b7 h;simp only[List.mem_cons,List.not_mem_nil,or_false]at hm;injection hm with h1 h2;subst h1 h2;exact⟨rfl,rfl⟩
 ·exact Qw rfl rfl rfl
 conv=>whnf
 refine ag.dh (fun z=>absurd (show(0:Int)<(S.sz:Int) by omega) z) (fun _=>?_)
 conv=>whnf
 refine aS.mk {i:Nat//i<=C.length} 5 (fun i=>(mkE (lo1 C L i.val),lcM S C (lnQ L D rec ρ (ab (C.take i.val))))) (fun i=>C.length-i.val) ⟨0,Nat.zero_le _⟩ ?_ ?_
 focus
  exact F6 _ (Ce rfl rfl rfl rfl) rfl rfl rfl rfl
 intro⟨i,hi⟩;have hw:IntKind.i64.wrap ((i:Int)+1)=((i+1:Nat):Int):=by rw[al (by omega) (by omega)];omega
 conv=>whnf
 refine ag.dec (fun h=>?_) (fun h=>?_)
 focus
  have h2:i<C.length:=by
   have h:(i:Int)<((pts C).length:Int):=h;rw[ao]at h;omega
  conv=>whnf
  refine Idx.mk i rfl (by rw[ao];exact h2) ?_
  conv=>whnf
  refine ay (dH h2 (show 0+i*1=i by omega)) ?_
  conv=>whnf
  refine⟨2,S.sz,C.take i,C.drop (i+1),C[i].1,C[i].2,rfl,congrArg some (oO h2),by omega,hO.dW _ (List.getElem_mem h2),?_⟩
  conv=>whnf
  refine aS.mk {j:Nat//j<=C[i].2.length} 5 (fun j=>(mkE (lo2 C L i C[i].2 j.val),lcM S C (lnQ L D rec ρ (ab (C.take i)++C[i].2.take j.val)))) (fun j=>C[i].2.length-j.val) ⟨0,Nat.zero_le _⟩ ?_ ?_
  focus
   exact F6 _ (Cf rfl rfl rfl rfl rfl rfl rfl) rfl rfl rfl (congrArg (fun X=>some (AO.sep (lnQ L D rec ρ X))) (List.append_nil _).symm)
  have hF:=(hO.dW _ (List.getElem_mem h2)).2.2;have fE:∀{j:Nat},j=C[i].2.length->ab (C.take i)++C[i].2.take j=ab (C.take (i+1)):=fun{j} e=>by rw[vQ h2,e,List.take_length]
  intro⟨j,hj⟩;have hw2:IntKind.i64.wrap ((j:Int)+1)=((j+1:Nat):Int):=by rw[al (by omega) (by omega)];omega
  conv=>whnf
  refine ag.dec (fun h=>?_) (fun h=>?_)
  focus
   have h3:j<C[i].2.length:=by
    have h:(j:Int)<(C[i].2.length:Int):=h;omega
   have hat:=Cd h2 h3;have fT:C[i].2.take (j+1)=C[i].2.take j++ [C[i].2[j]]:=List.take_succ_eq_append_getElem h3
   have fW:IntKind.i64.wrap (((ab (C.take i)++C[i].2.take j).length:Int)+1)=((ab (C.take i)++C[i].2.take (j+1)).length:Int):=by
    have h6:=congrArg List.length hat;rw[List.length_append,List.length_cons]at h6;rw[fT,<-List.append_assoc,List.length_append (bs:=[_]),al (by omega) (by omega)];simp
   conv=>whnf
   refine Idx.mk j rfl h3 ?_
   conv=>whnf
   refine ay (fp h3 rfl) ?_
   conv=>whnf
   refine Yld.mk _ hY ⟨lnI (ab (C.take i)++C[i].2.take j).length,4,_,rfl,rfl,F2,dt rfl,?_⟩
   conv=>whnf
   refine⟨dt rfl,?_⟩
   conv=>whnf
   refine⟨?_,lnI (ab (C.take i)++C[i].2.take (j+1)).length,4,Qw rfl rfl (congrArg (fun q=> [AV.si .i64 q]) fW),dt rfl,?_⟩
   ·repeat first|exact dt rfl|refine c8.set ?_ rfl|refine c8.del ?_
   conv=>whnf
   exact⟨⟨j+1,h3⟩,by show C[i].2.length-(j+1)<C[i].2.length-j;omega,F6 _ (Cf rfl rfl rfl rfl rfl rfl (congrArg (AV.si .i64) hw2)) rfl rfl rfl rfl⟩
  have h4:j=C[i].2.length:=by
   have h:¬(j:Int)<(C[i].2.length:Int):=h;omega
  conv=>whnf
  exact⟨⟨i+1,h2⟩,by show C.length-(i+1)<C.length-i;omega,F6 _ (Ce rfl rfl rfl (congrArg (AV.si .i64) hw)) rfl rfl rfl (congrArg (fun X=>some (AO.sep (lnQ L D rec ρ X))) (fE h4))⟩
 have h2:i=C.length:=by
  have h:¬(i:Int)<((pts C).length:Int):=h;rw[ao]at h;omega
 have fZ:ab (C.take i)=ab C:=by rw[h2,List.take_length]
 conv=>whnf
 refine⟨.ready,none,lnI (ab (C.take i)).length,4,rfl,(fun q=>by cases q),.inl rfl,dt rfl,?_⟩
 conv=>whnf
 refine⟨dt rfl,?_⟩
 conv=>whnf
 exact .inl ⟨fun φ ψ u h=>h,tq _ (congrArg (fun X:Smp=>AV.si .i64 (X.length:Int)) fZ) (VTo.mk5 rfl) VR.eJ rfl rfl rfl⟩
def R7 (S:Sr) (C:Ck5) (ar:List AV) (v:AV):Prop:=ar=[]/\Okc S C/\(ab C).length<=100000/\v= .si .i64 ((ab C).length:Int)
theorem Qx:bW Tryz.prog 57=true:=by kernel_rfl
theorem R8:ai 57 (l9 R7):=mb (Qt Qx (bR tab.mixed sq 5) (qH sq) (mN sq)) Qx fun S C ar v hA=>by
 obtain⟨h1,h2,h3,h4⟩:=hA;subst h1 h4;exact⟨[],fun φ vs h=>h,fun _=>rfl,⟨fun _=>rfl,rfl⟩,OD S C h2 h3⟩
noncomputable def LQ:FuncId->EP:=aV 20 [] evP
theorem OE:aW LQ:=aq az (by kernel_rfl) (by kernel_rfl)
def F7 (B:Nat) (f:Smp->Smp->Bool) (args:List AV) (H:AH) (n:Nat) (κ:PK):Prop:=match args with
 | [x,y]=>∃L M,lR H x L/\lR H y M/\L.length<=B/\M.length<=B/\κ (.sb (f L M)) H n
 |_=>False
theorem LR {B:Nat} {F:FuncId->EP} (hF:aW F) {d:Nat} {f:FuncId} {g:Smp->Smp->Bool} (hic:bW Tryz.prog f=true) (h00:ax F d f [.nsl,.nsl] .nil 0 fun u _ _=>mkT u=mkT (.bool (g [] [])))
 (h01:∀M cap,M.length<=B->ax F d f [.nsl,.sy 0 0 M.length cap 0] (mkH [(0,.ro (smp M))]) 1 fun u _ _=>mkT u=mkT (.bool (g [] M)))
 (h10:∀L cap,L.length<=B->ax F d f [.sy 0 0 L.length cap 0,.nsl] (mkH [(0,.ro (smp L))]) 1 fun u _ _=>mkT u=mkT (.bool (g L [])))
 (h11:∀L M c1 c2,L.length<=B->M.length<=B->ax F d f [.sy 0 0 L.length c1 0,.sy 1 0 M.length c2 0] (mkH [(0,.ro (smp L)),(1,.ro (smp M))]) 2 fun u _ _=>mkT u=mkT (.bool (g L M))):ai f (F7 B g):=fun args H n κ hs φ h0' hp vs K hr hargs hk=>by
 unfold F7 at hs;split at hs
 ·obtain⟨x,y,rfl,e1,e2⟩:=vs2 hargs;obtain⟨L,M,hS,hT,hL,hM,hs2⟩:=hs;rcases hS.open hr e1 with⟨rfl,hv⟩|⟨p,C,_,hro,hv⟩<;>rcases hT.open hr e2 with⟨rfl,hw⟩|⟨p',C',_,hro',hw⟩
  ·exact gM (v:= .bool (g [] [])) hF rfl h00 hs2 hr hk hic HR.ro0 (.cons (hv _) (.cons (hw _) .nil))
  ·exact gM (v:= .bool (g [] M)) hF rfl (h01 M C' hM) hs2 hr hk hic (fun hw=>HR.ro1 hw hro') (.cons (hv _) (.cons (hw _ 0 rfl) .nil))
  ·exact gM (v:= .bool (g L [])) hF rfl (h10 L C hL) hs2 hr hk hic (fun hw=>HR.ro1 hw hro) (.cons (hv _ 0 rfl) (.cons (hw _) .nil))
  ·exact gM (v:= .bool (g L M)) hF rfl (h11 L M C C' hL hM) hs2 hr hk hic (fun hw=>HR.ro2 hw hro hro') (.cons (hv _ 0 rfl) (.cons (hw _ 1 rfl) .nil))
 ·exact hs.elim
theorem R9:iu Tryz.prog 27=some [(0,0),(0,1)]:=by kernel_rfl
def ni (L M:Smp):Bool:=decide (L=M)
noncomputable def Ef (L M:Smp) (c1 c2 i:Nat):AE×AH:=(mkE [(0,.sy 0 0 L.length c1 0),(1,.sy 1 0 M.length c2 0),(5,.si .i64 i)],mkH [(0,.ro (smp L)),(1,.ro (smp M))])
theorem Cg {L M:Smp} {c1 c2 i p n:Nat} {σ:AE} {H:AH} (hp:p<=2) (e0:mk (ak (pa 0) σ)= .sy 0 0 L.length c1 0) (e1:mk (ak (pa 1) σ)= .sy 1 0 M.length c2 0) (e5:mk (ak (pa 5) σ)= .si .i64 i)
 (h0:H.get 0=some (.ro (smp L))) (h1:H.get 1=some (.ro (smp M))):Cov p σ H n ((Ef L M c1 c2 i).1,(Ef L M c1 c2 i).2,2):=by
 refine Cov.of (fun b=>b) hp (fun b hb=>rfl) ?_ ?_ ?_
 ·intro x hx;simp only[List.mem_cons,List.not_mem_nil,or_false]at hx;rcases hx with rfl|rfl|rfl
  ·exact .sy (by decide) e0
  ·exact .sy (by decide) e1
  ·exact .int e5
 ·intro x hx;simp only[List.mem_cons,List.not_mem_nil,or_false]at hx;rcases hx with rfl|rfl
  ·exact⟨by simp,_,h0,au.Bb (b6 L) rfl⟩
  ·exact⟨by simp,_,h1,au.Bb (b6 M) rfl⟩
 ·intro x hx y hy;simp only[List.mem_cons,List.not_mem_nil,or_false]at hx hy;rcases hx with rfl|rfl<;>rcases hy with rfl|rfl<;>exact fun q=>q
theorem ub {L M:Smp} (h:L≠M):AV.sb false=mkT (.bool (ni L M)):=by simp[ni,h,mkT,mk]
theorem LS {L M:Smp} (h:L=M):AV.sb true=mkT (.bool (ni L M)):=by simp[ni,h,mkT,mk]
theorem Iw (L M:Smp) (c1 c2:Nat) (hL:L.length<=1000000) (hM:M.length<=1000000):ax LQ 3 20 [.sy 0 0 L.length c1 0,.sy 1 0 M.length c2 0] (mkH [(0,.ro (smp L)),(1,.ro (smp M))]) 2 fun u _ _=>mkT u=mkT (.bool (ni L M)):=by
 conv=>whnf
 refine ag.dh (fun h1=>?_) (fun h1=>?_)
 ·conv=>whnf
  exact(show mkT _=AV.sb false from rfl).trans (ub fun e=>h1 (by rw[e]))
 have hlen:L.length=M.length:=by have:(L.length:Int)=(M.length:Int):=h1;omega
 conv=>whnf
 refine aS.mk {i:Nat//i<L.length+1/\L.take i=M.take i} 2 (fun a=>Ef L M c1 c2 a.val) (fun a=>L.length-a.val) ⟨0,by omega,rfl⟩ ?_ ?_
 ·exact Cg (i:=0) (Nat.le_refl 2) rfl rfl rfl rfl rfl
 ·intro⟨i,hi,he⟩
  conv=>whnf
  refine ag.dec (fun h2=>?_) (fun h2=>?_)
  ·have h3:i<L.length:=Int.ofNat_lt.1 h2;have h4:i<M.length:=by omega
   have hlt:L.length-(i+1)<L.length-i:=by omega
   have hw:IntKind.i64.wrap ((i:Int)+1)=((i+1:Nat):Int):=by rw[al (x:=(i:Int)+1) (by omega) (by omega)];omega
   conv=>whnf
   refine Idx.mk i rfl h3 ?_
   conv=>whnf
   refine ay (fp h3 (by show 0+i*2=i*2;omega)) ?_
   conv=>whnf
   refine Idx.mk i rfl h4 ?_
   conv=>whnf
   refine ay (fp h4 (by show 0+i*2=i*2;omega)) ?_
   conv=>whnf
   refine ay (Ig R9) ?_
   conv=>whnf
   refine ag.nsb (fun h5=>?_) (fun h5=>?_)
   ·conv=>whnf
    refine(show mkT _=AV.sb false from rfl).trans (ub fun e=>?_);subst e;have h5:(decide (L[i].1=L[i].1)&&(decide (L[i].2=L[i].2)&&true))=false:=h5;simp at h5
   ·conv=>whnf
    have h5:(decide (L[i].1=M[i].1)&&(decide (L[i].2=M[i].2)&&true))=true:=h5;simp only[Bool.and_true,Bool.and_eq_true,decide_eq_true_eq]at h5;refine⟨⟨i+1,by omega,?_⟩,hlt,Cg (Nat.le_refl 2) rfl rfl (congrArg (AV.si .i64) hw) rfl rfl⟩;rw[List.take_succ_eq_append_getElem h3,List.take_succ_eq_append_getElem h4,he,Prod.ext h5.1 h5.2]
  ·conv=>whnf
   have h3:i=L.length:=by have:¬(i:Int)<(L.length:Int):=h2;omega
   subst h3;refine(show mkT _=AV.sb true from rfl).trans (LS ?_);rw[List.take_length,hlen,List.take_length]at he;exact he
theorem OF:ax LQ 3 20 [.nsl,.nsl] .nil 0 fun u _ _=>mkT u=mkT (.bool (ni [] [])):=by
 conv=>whnf
 refine aS.roll 1 ?_
 conv=>whnf
 rfl
theorem OG (M:Smp) (cap:Nat):ax LQ 3 20 [.nsl,.sy 0 0 M.length cap 0] (mkH [(0,.ro (smp M))]) 1 fun u _ _=>mkT u=mkT (.bool (ni [] M)):=by
 conv=>whnf
 refine ag.dh (fun h1=>?_) (fun h1=>?_)
 ·conv=>whnf
  exact(show mkT _=AV.sb false from rfl).trans (ub fun e=>h1 (by rw[<-e];rfl))
 ·conv=>whnf
  have h2:M=[]:=List.eq_nil_of_length_eq_zero (by have:(0:Int)=(M.length:Int):=h1;omega);subst h2;refine aS.roll 1 ?_
  conv=>whnf
  rfl
theorem OH (L:Smp) (cap:Nat):ax LQ 3 20 [.sy 0 0 L.length cap 0,.nsl] (mkH [(0,.ro (smp L))]) 1 fun u _ _=>mkT u=mkT (.bool (ni L [])):=by
 conv=>whnf
 refine ag.dh (fun h1=>?_) (fun h1=>?_)
 ·conv=>whnf
  exact(show mkT _=AV.sb false from rfl).trans (ub fun e=>h1 (by rw[e];rfl))
 ·conv=>whnf
  have h2:L=[]:=List.eq_nil_of_length_eq_zero (by have:(L.length:Int)=(0:Int):=h1;omega);subst h2;refine aS.roll 1 ?_
  conv=>whnf
  refine ag.dec (fun h=>absurd h (by decide)) (fun _=>?_)
  conv=>whnf
  rfl
theorem OI:ai 20 (F7 1000000 ni):=LR OE (by kernel_rfl) OF (fun M cap _=>OG M cap) (fun L cap _=>OH L cap) Iw
theorem re (S:Sr) (L:Smp) (t v p:Int):(il S L t v p).1.2.length<=L.length+1:=by
 unfold il;generalize (if p=0 then S.pol else p)=q;split
 ·exact Nat.le_succ _
 ·split
  ·exact Nat.le_succ _
  ·split
   ·exact Nat.le_trans (od _ _ _) (vH _ _ _ _).1
   ·exact Nat.le_succ _
theorem LU (S:Sr) (L:Smp) (ret p:Int):(oe S L ret p).1.2.length<=L.length:=by
 unfold oe;split
 ·exact od _ _ _
 ·exact Nat.le_refl _
def F8 (args:List AV) (H:AH) (n:Nat) (κ:PK):Prop:=match args with
 | [x,y,z]=>∃(r k q:Nat) (S:Sr) (C:Ck5) (t v p:Int) (L:Smp) (S':Sr) (L':Smp) (e:Int),x= .ptr r 0/\mR y t v/\mk z= .si .i64 p/\ew H n r k q S (pts C) C/\jy S C/\aN v/\ab C=L/\L.length<=40000/\il S L t v p=((S',L'),e)/\∀C',jy S' C'->ab C'=L'->κ (.si .i64 e) (fF H n r k q S' (pts C') C') (n+1)
 |_=>False
theorem Sa:ai 72 F8:=fun args H n κ hs=>RZ args H n κ (by
 unfold F8 at hs;unfold zu;split at hs
 ·obtain⟨r,k,q,S,C,t,v,p,L,S',L',e,h1,h2,h3,h4,h5,h6,h7,h8,h9,h10⟩:=hs;subst h7;refine⟨r,k,q,S,C,t,v,p,h1,h2,h3,h4,h5,h6,h8,fun C' f1 f2 f3 f4=>?_⟩;have hl:=re S (ab C) t v p;rw[h9]at f1 f2 f3 f4 hl;have:=h10 C' ⟨f2,f3,f4,by rw[f1];dsimp only at hl⊢;omega⟩ f1;rw[h9];exact this
 ·exact hs.elim)
def F9 (args:List AV) (H:AH) (n:Nat) (κ:PK):Prop:=match args with
 | [x,y,z]=>∃(r k q:Nat) (S:Sr) (C:Ck5) (a b:Int) (L L':Smp) (m:Nat),x= .ptr r 0/\mk y= .si .i64 a/\mk z= .si .i64 b/\ew H n r k q S (pts C) C/\jy S C/\ab C=L/\L.length<=40000/\aO L a b=L'/\L.length-L'.length=m/\∀C',jy S C'->ab C'=L'->κ (.si .i64 (m:Int)) (fF H n r k q S (pts C') C') (n+1)
 |_=>False
theorem Sb:ai 100 F9:=fun args H n κ hs=>LI args H n κ (by
 unfold F9 at hs;unfold ua;split at hs
 ·obtain⟨r,k,q,S,C,a,b,L,L',m,h1,h2,h3,h4,h5,h6,h7,h8,h9,h10⟩:=hs;subst h6 h8 h9;have e1:=zq C;have e2:=h5.gt.few;have e3:=od (ab C) a b;exact⟨r,k,q,S,C,a,b,h1,h2,h3,h4,h5.gt.gd.pf,by omega,by omega,fun C' f1 f2 f3=>h10 C' ⟨f2,f3,h5.num,by rw[f1];omega⟩ f1⟩
 ·exact hs.elim)
def Ga (args:List AV) (H:AH) (n:Nat) (κ:PK):Prop:=match args with
 | [x,y,z]=>∃(r k q:Nat) (S:Sr) (C:Ck5) (ret p:Int) (L:Smp) (S':Sr) (L':Smp) (e:Int),x= .ptr r 0/\mk y= .si .i64 ret/\mk z= .si .i64 p/\ew H n r k q S (pts C) C/\jy S C/\ab C=L/\L.length<=40000/\oe S L ret p=((S',L'),e)/\∀C',jy S' C'->ab C'=L'->κ (.si .i64 e) (fF H n r k q S' (pts C') C') (n+1)
 |_=>False
theorem Sc:ai 108 Ga:=fun args H n κ hs=>R1 args H n κ (by
 unfold Ga at hs;unfold zv;split at hs
 ·obtain⟨r,k,q,S,C,ret,p,L,S',L',e,h1,h2,h3,h4,h5,h7,h8,h9,h10⟩:=hs;subst h7;refine⟨r,k,q,S,C,ret,p,h1,h2,h3,h4,h5,h8,fun C' f1 f2 f3 f4=>?_⟩;have hl:=LU S (ab C) ret p;rw[h9]at f1 f2 f3 f4 hl;have:=h10 C' ⟨f2,f3,f4,by rw[f1];dsimp only at hl⊢;omega⟩ f1;rw[h9];exact this
 ·exact hs.elim)
theorem LV {S:Sr} (h1:128<=S.sz) (h2:S.sz<=4096) (hn:nt S):jy S []:=⟨⟨⟨h1,h2,List.Pairwise.nil,(fun c hc=>by cases hc),(fun c hc=>by cases hc)⟩,(fun c hc=>by cases hc)⟩,(fun j h=>by simp at h),hn,Nat.zero_le _⟩
theorem OJ {sz ret p:Int} {S:Sr} (h:oZ sz ret p=some S):jy S []/\S=⟨sz.toNat,ret,p,-1,0⟩:=by
 unfold oZ at h;split at h
 ·rename_i k;injection h with h;subst h;exact⟨LV (by show 128<=sz.toNat;omega) (by show sz.toNat<=4096;omega) ⟨k.2.1,k.2.2,⟨(show(-1:Int)≤-1 by decide),(show(-1:Int)<1099511627776 by decide)⟩,⟨(show(0:Int)<=0 by decide),(show(0:Int)<=1099511627776 by decide)⟩⟩,rfl⟩
 ·cases h
theorem jy.okc {S:Sr} {C:Ck5} (h:jy S C):Okc S C:=h.gt.toPre5.okc (by have:=h.gt.few;have:=h.few;omega)
def Gb (args:List AV) (H:AH) (n:Nat) (κ:PK):Prop:=match args with
 | [x,y,z]=>∃(sz ret p:Int) (r:Option Sr),mk x= .si .i64 sz/\mk y= .si .i64 ret/\mk z= .si .i64 p/\n<900000/\oZ sz ret p=r/\match r with
  |none=>κ (.tup [.nil,.int .i64 1]) H n
  |some S=>jy S []->κ (.tup [.ptr n 0,.int .i64 0]) (vM H n S) (n+3)
 |_=>False
theorem Sd:ai 104 Gb:=fun args H n κ hs=>R2 args H n κ (by
 unfold Gb at hs;unfold zw;split at hs
 ·obtain⟨sz,ret,p,r,h1,h2,h3,h4,h5,h6⟩:=hs;refine⟨sz,ret,p,h1,h2,h3,h4,fun q=>?_,fun S q=>?_⟩
  ·rw[h5]at q;subst q;exact h6
  ·have:=(OJ q).1;rw[h5]at q;subst q;exact h6 this
 ·exact hs.elim)
def HP.emp:HP where
 P _ X _:=∀B,¬X B
 loc _ _ _ _ _ _ h:=h
 mono _ _ _ _ _ h:=h
 ex _ _ _ B h hB:=absurd hB (h B)
def HP.exi {α:Type} (c:α->Prop) (Q:α->HP):HP where
 P z X h:=∃a,c a/\(Q a).P z X h
 loc z X h g hn e:=fun⟨a,h1,h2⟩=>⟨a,h1,(Q a).loc z X h g hn e h2⟩
 mono z z' X h hz:=fun⟨a,h1,h2⟩=>⟨a,h1,(Q a).mono z z' X h hz h2⟩
 ex z X h B:=fun⟨a,_,h2⟩ hB=>(Q a).ex z X h B h2 hB
structure Loc (χ:Ph) (O:List AO) (X:Nat->Prop) (h:Hp):Prop where
 dom:∀i q,χ i=some q->i<O.length/\X q.B
 live:∀i o,O[i]?=some o->o.own=true/\((χ i=none/\o.free=true)∨∃q ob,χ i=some q/\h.f q.B=some ob/\OR χ q o ob)
 inj:∀i j q q',χ i=some q->χ j=some q'->q.B=q'.B->i=j
 ex:∀B,X B->∃o,h.f B=some o
 sep:∀i Q,O[i]?=some (.sep Q)->Q.P χ.z (χ.s i) h/\∀B,χ.s i B->X B/\(∀j q,χ j=some q->q.B≠B)/\∀j Q',O[j]?=some (.sep Q')->j≠i->¬χ.s j B
theorem Loc.to {χ:Ph} {O:List AO} {X:Nat->Prop} {h g:Hp} (l:Loc χ O X h) (hn:h.n<=g.n) (e:∀B,X B->g.f B=h.f B):Loc χ O X g:=
 ⟨l.dom,fun i o hi=>⟨(l.live i o hi).1,(l.live i o hi).2.imp id fun⟨q,ob,h1,h2,h3⟩=>⟨q,ob,h1,(e _ (l.dom i q h1).2).trans h2,h3⟩⟩,l.inj,fun B hB=>by rw[e B hB];exact l.ex B hB,
  fun i Q hi=>⟨Q.loc _ _ _ _ hn (fun B hB=>e B ((l.sep i Q hi).2 B hB).1) (l.sep i Q hi).1,(l.sep i Q hi).2⟩⟩
def vR (O:List AO) (p:Nat×Nat):HP where
 P z X h:=∃χ:Ph,(∀q,χ.z q->z q)/\(∃T,χ 0=some ⟨p.1,p.2,T⟩)/\Loc χ O X h
 loc _ _ _ _ hn e:=fun⟨χ,h1,h2,h3⟩=>⟨χ,h1,h2,h3.to hn e⟩
 mono _ _ _ _ hz:=fun⟨χ,h1,h2,h3⟩=>⟨χ,fun q hq=>hz q (h1 q hq),h2,h3⟩
 ex _ _ _ B:=fun⟨_,_,_,h3⟩ hB=>h3.ex B hB
section
variable {φ:Ph} {H H':AH} {n:Nat} {h0 h:Hp} {b:Nat} {O:List AO} {p:Nat×Nat} {Q:HP} {S:List Nat}
theorem HR.Eg (hr:HR φ H n h0 h) (hbn:b<n) (hb:H.get b=some (.sep Q)) (hP:(vR O p).P φ.z (φ.s b) h)
 (hH:∀x o,H'.get x=some o->(∃i o',x=n+i/\O[i]?=some o'/\o=cx (fun c=>n+c) o')∨(x=b/\o= .sep .emp)∨(x≠b/\(x<n∨n+O.length<=x)/\H.get x=some o)):
 ∃ψ T,PLe φ ψ/\ψ n=some ⟨p.1,p.2,T⟩/\HR ψ H' (n+O.length) h0 h:=by
 obtain⟨χ,hz,⟨T,h00⟩,l⟩:=hP;have hS:=(hr.sep b Q hb).2;have hbo:=hr.mT hb
 have φn:∀x,n<=x->φ x=none:=fun x hx=>by
  cases e:φ x with
  |none=>rfl
  |some q=>have:=(hr.dom x q e).1;omega
 have χn:∀i,O.length<=i->χ i=none:=fun i hi=>by
  cases e:χ i with
  |none=>rfl
  |some q=>have:=(l.dom i q e).1;omega
 let ψ:Ph:=⟨fun x=>if n<=x then χ (x-n)else φ x,φ.z,φ.y,fun x=>if n<=x/\x<n+O.length then χ.s (x-n)else if x=b then(fun _=>False)else φ.s x⟩
 have ψn:∀i,ψ (n+i)=χ i:=fun i=>by
  show(if n<=n+i then χ (n+i-n)else _)=_;rw[if_pos (Nat.le_add_right n i),Nat.add_sub_cancel_left]
 have ψo:∀x,(x<n∨n+O.length<=x)->ψ x=φ x:=fun x hx=>by
  show(if n<=x then χ (x-n)else φ x)=φ x;split
  ·rw[φn x (by omega),χn _ (by omega)]
  ·rfl
 have sn:∀{i:Nat} {o:AO},O[i]?=some o->ψ.s (n+i)=χ.s i:=fun{i o} hi=>by
  have:=(List.getElem?_eq_some_iff.1 hi).1;show(if n<=n+i/\n+i<n+O.length then χ.s (n+i-n)else _)=_;rw[if_pos ⟨Nat.le_add_right n i,by omega⟩,Nat.add_sub_cancel_left]
 have sb:ψ.s b=fun _=>False:=by
  show(if n<=b/\b<n+O.length then _ else if b=b then _ else _)=_;rw[if_neg (by omega),if_pos rfl]
 have so:∀x,(x<n∨n+O.length<=x)->x≠b->ψ.s x=φ.s x:=fun x hx hxb=>by
  show(if n<=x/\x<n+O.length then _ else if x=b then _ else _)=_;rw[if_neg (by omega),if_neg hxb]
 have hle:PLe φ ψ:=⟨fun x q e=>by rw[ψo x (.inl (hr.dom x q e).1)];exact e,fun _ h=>h,fun _ h=>h⟩;have sle:SLe χ (ψ.pull (fun c=>n+c)):=⟨fun i q e=>by show ψ (n+i)=_;rw[ψn];exact e,hz⟩
 have cs:∀x o q,H'.get x=some o->o.own=true->ψ x=some q->(∃i,x=n+i/\χ i=some q/\φ.s b q.B)∨((x<n∨n+O.length<=x)/\x≠b/\H.get x=some o/\φ x=some q):=fun x o q hx ho hq=>by
  rcases hH x o hx with⟨i,o',rfl,h1,rfl⟩|⟨rfl,rfl⟩|⟨h1,h2,h3⟩
  ·rw[ψn]at hq;exact .inl ⟨i,rfl,hq,(l.dom i q hq).2⟩
  ·rw[ψo _ (.inl hbn),hbo]at hq;cases hq
  ·rw[ψo _ h2]at hq;exact .inr ⟨h2,h1,h3,hq⟩
 refine⟨ψ,T,hle,by have:=ψn 0;rw[Nat.add_zero]at this;rw[this];exact h00,⟨fun x q e=>?_,fun x o e=>?_,fun x y o o' q q' hx hy ho ho' hq hq' e=>?_,hr.base,hr.size,fun q hq=>?_,fun x Q' hx=>?_⟩⟩
 ·by_cases hxn:n<=x
  ·obtain⟨i,rfl⟩:∃i,x=n+i:=⟨x-n,by omega⟩;rw[ψn]at e;have:=l.dom i q e;exact⟨by omega,(hS q.B this.2).1.1⟩
  ·rw[ψo x (.inl (by omega))]at e;have:=hr.dom x q e;exact⟨by omega,this.2⟩
 ·rcases hH x o e with⟨i,o',rfl,h1,rfl⟩|⟨rfl,rfl⟩|⟨h1,h2,h3⟩
  ·obtain⟨g1,⟨g2,g3⟩|⟨q,ob,g2,g3,g4⟩⟩:=l.live i o' h1
   ·exact .inl ⟨by rw[ψn];exact g2,by rw[jZ];exact g3⟩
   ·refine .inr ⟨q,ob,by rw[ψn];exact g2,?_,g3,(OR.pull (χ:=ψ)).2 (g4.cO sle)⟩;rw[mS,AO.bA g1];exact(hS q.B (l.dom i q g2).2).1.2
  ·exact .inl ⟨by rw[ψo _ (.inl hbn)];exact hbo,rfl⟩
  ·rcases hr.live x o h3 with⟨g1,g2⟩|⟨q,ob,g1,g2,g3,g4⟩
   ·exact .inl ⟨by rw[ψo _ h2];exact g1,g2⟩
   ·exact .inr ⟨q,ob,by rw[ψo _ h2];exact g1,g2,g3,g4.mono hle⟩
 ·rcases cs x o q hx ho hq with⟨i,rfl,a1,a2⟩|⟨a1,a2,a3,a4⟩<;>rcases cs y o' q' hy ho' hq' with⟨j,rfl,b1,b2⟩|⟨b1,b2,b3,b4⟩
  ·rw[l.inj i j q q' a1 b1 e]
  ·exact absurd e.symm ((hS _ a2).2.1 y o' q' b3 ho' b4)
  ·exact absurd e ((hS _ b2).2.1 x o q a3 ho a4)
  ·exact hr.inj x y o o' q q' a3 b3 ho ho' a4 b4 e
 ·refine⟨⟨FzR.mono (φ:=φ) (ψ:=ψ) hle.z (hr.frz q hq).1.1,(hr.frz q hq).1.2⟩,fun x o px hx ho hpx=>?_⟩;rcases cs x o px hx ho hpx with⟨i,rfl,a1,a2⟩|⟨a1,a2,a3,a4⟩
  ·exact fun e=>(hS _ a2).2.2.1 q hq e.symm
  ·exact(hr.frz q hq).2 x o px a3 ho a4
 ·rcases hH x _ hx with⟨i,o',rfl,h1,h2⟩|⟨rfl,h2⟩|⟨h1,h2,h3⟩
  ·have h2:=lT h2.symm;subst h2;obtain⟨g1,g2⟩:=l.sep i Q' h1;rw[sn h1];refine⟨Q'.mono _ _ _ _ hz g1,fun B hB=>?_⟩;obtain⟨k1,k2,k3⟩:=g2 B hB;obtain⟨f1,f2,f3,f4⟩:=hS B k1;refine⟨f1,fun y o q hy ho hq=>?_,f3,fun y Q2 hy hne hs=>?_⟩
   ·rcases cs y o q hy ho hq with⟨j,rfl,a1,a2⟩|⟨a1,a2,a3,a4⟩
    ·exact k2 j q a1
    ·exact f2 y o q a3 ho a4
   ·rcases hH y _ hy with⟨j,o',rfl,j1,j2⟩|⟨rfl,j2⟩|⟨j1,j2,j3⟩
    ·have j2:=lT j2.symm;subst j2;rw[sn j1]at hs;exact k3 j Q2 j1 (fun q=>hne (by rw[q])) hs
    ·rw[sb]at hs;exact hs
    ·rw[so y j2 j1]at hs;exact f4 y Q2 j3 j1 hs
  ·injection h2 with h2;subst h2;rw[sb];exact⟨fun _ h=>h,fun _ h=>h.elim⟩
  ·obtain⟨g1,g2⟩:=hr.sep x Q' h3;rw[so x h2 h1];refine⟨g1,fun B hB=>?_⟩;obtain⟨f1,f2,f3,f4⟩:=g2 B hB;refine⟨f1,fun y o q hy ho hq=>?_,f3,fun y Q2 hy hne hs=>?_⟩
   ·rcases cs y o q hy ho hq with⟨j,rfl,a1,a2⟩|⟨a1,a2,a3,a4⟩
    ·exact fun e=>f4 b Q hb (fun q=>h1 q.symm) (by rw[<-e];exact a2)
    ·exact f2 y o q a3 ho a4
   ·rcases hH y _ hy with⟨j,o',rfl,j1,j2⟩|⟨rfl,j2⟩|⟨j1,j2,j3⟩
    ·have j2:=lT j2.symm;subst j2;rw[sn j1]at hs;exact f4 b Q hb (fun q=>h1 q.symm) ((l.sep j Q2 j1).2 B hs).1
    ·rw[sb]at hs;exact hs
    ·rw[so y j2 j1]at hs;exact f4 y Q2 j3 hne hs
def xY (H:AH) (S:List Nat) (O:List AO):Prop:=S.Nodup/\S.length=O.length/\∀(i s:Nat) (o:AO),S[i]?=some s->O[i]?=some o->H.get s=some (cx (bl S 0) o)/\o.own=true/\ltO O.length o=true
theorem HR.Iy (hr:HR φ H n h0 h) (hs:xY H S O) (hb:H.get b=some (.sep .emp)) (hbS:b∉S) {s0 T:Nat} (hs0:S[0]?=some s0) (hp:φ s0=some ⟨p.1,p.2,T⟩)
 (hH:∀x o,H'.get x=some o->(x=b/\o= .sep Q)∨(x≠b/\x∉S/\H.get x=some o)) (hQ:∀z X h,(vR O p).P z X h->Q.P z X h):
 ∃ψ,SLe φ ψ/\PLe φ ψ/\ψ.f=φ.f/\HR ψ H' n h0 h:=by
 have hbo:=hr.mT hb
 have ofS:∀{i s},S[i]?=some s->∃o,O[i]?=some o/\H.get s=some (cx (bl S 0) o)/\o.own=true/\ltO O.length o=true:=fun{i s} e=>by
  have hlt:i<O.length:=by rw[<-hs.2.1];exact(List.getElem?_eq_some_iff.1 e).1
  exact⟨O[i],List.getElem?_eq_getElem hlt,hs.2.2 i s O[i] e (List.getElem?_eq_getElem hlt)⟩
 have ofO:∀{i o},O[i]?=some o->∃s,S[i]?=some s:=fun{i o} e=>by
  have:=(List.getElem?_eq_some_iff.1 e).1;rw[<-hs.2.1]at this;exact⟨S[i],List.getElem?_eq_getElem this⟩
 let X:Nat->Prop:=fun B=>(∃(i s:Nat) (q:Pl),S[i]?=some s/\φ s=some q/\q.B=B)∨∃(i s:Nat) (Q':HP),S[i]?=some s/\O[i]?=some (AO.sep Q')/\φ.s s B
 let χ:Ph:=⟨fun i=>match S[i]? with|some s=>φ s|none=>none,φ.z,φ.y,fun i=>match S[i]? with|some s=>φ.s s|none=>fun _=>False⟩
 have χf:∀{i s},S[i]?=some s->χ i=φ s:=fun{i s} e=>by
  show(match S[i]? with|some s=>φ s|none=>none)=_;rw[e]
 have χs:∀{i s},S[i]?=some s->χ.s i=φ.s s:=fun{i s} e=>by
  show(match S[i]? with|some s=>φ.s s|none=>fun _=>False)=_;rw[e]
 have χi:∀{i q},χ i=some q->∃s,S[i]?=some s/\φ s=some q:=fun{i q} e=>by
  have e:(match S[i]? with|some s=>φ s|none=>none)=some q:=e;cases hi:S[i]? with
  |none=>rw[hi]at e;cases e
  |some s=>rw[hi]at e;exact⟨s,rfl,e⟩
 have own:∀{i s q},S[i]?=some s->φ s=some q->∃o,O[i]?=some o/\H.get s=some (cx (bl S 0) o)/\(cx (bl S 0) o).own=true:=fun{i s q} e1 _=>by
  obtain⟨o,h1,h2,h3,_⟩:=ofS e1;exact⟨o,h1,h2,by rw[iF];exact h3⟩
 have hl:Loc χ O X h:=by
  refine⟨fun i q e=>?_,fun i o e=>?_,fun i j q q' e e' hB=>?_,fun B hB=>?_,fun i Q' e=>?_⟩
  ·obtain⟨s,h1,h2⟩:=χi e;exact⟨by rw[<-hs.2.1];exact(List.getElem?_eq_some_iff.1 h1).1,.inl ⟨i,s,q,h1,h2,rfl⟩⟩
  ·obtain⟨s,h1⟩:=ofO e;obtain⟨h2,h3,h4⟩:=hs.2.2 i s o h1 e;refine⟨h3,?_⟩;rcases hr.live s _ h2 with⟨g1,g2⟩|⟨q,ob,g1,g2,g3,g4⟩
   ·exact .inl ⟨by rw[χf h1];exact g1,by rw[jZ]at g2;exact g2⟩
   ·refine .inr ⟨q,ob,by rw[χf h1];exact g1,g3,?_⟩;have g5:=(OR.pull (χ:=φ) (r:=bl S 0)).1 g4;refine OR.below (m:=O.length) (χ:=χ) (ψ:=φ.pull (bl S 0)) (fun b' p' hb' e'=>?_) (fun _ h=>h) h4 g5;have e':φ (bl S 0 b')=some p':=e';have hlt:b'<S.length:=by rw[hs.2.1];exact hb'
    have hg:S[b']?=some S[b']:=List.getElem?_eq_getElem hlt;rw[cu hg]at e';rw[χf hg];exact e'
  ·obtain⟨s,h1,h2⟩:=χi e;obtain⟨s',h1',h2'⟩:=χi e';obtain⟨o,_,g2,g3⟩:=own h1 h2;obtain⟨o',_,g2',g3'⟩:=own h1' h2';have:=hr.inj s s' _ _ q q' g2 g2' g3 g3' h2 h2' hB;subst this;exact lU hs.1 h1 h1'
  ·rcases hB with⟨i,s,q,h1,h2,rfl⟩|⟨i,s,Q',h1,h2,h3⟩
   ·obtain⟨o,_,g2,_⟩:=own h1 h2;obtain⟨ob,_,g3,_⟩:=hr.of g2 h2;exact⟨ob,g3⟩
   ·exact Q'.ex _ _ _ B (hr.sep s Q' (hs.2.2 i s _ h1 h2).1).1 h3
  ·obtain⟨s,h1⟩:=ofO e;obtain⟨k1,k2⟩:=hr.sep s Q' (hs.2.2 i s _ h1 e).1;rw[χs h1];refine⟨k1,fun B hB=>?_⟩;obtain⟨g1,g2,g3,g4⟩:=k2 B hB;refine⟨.inr ⟨i,s,Q',h1,e,hB⟩,fun j q hj=>?_,fun j Q2 hj hne hsj=>?_⟩
   ·obtain⟨s',f1,f2⟩:=χi hj;obtain⟨o,_,f3,f4⟩:=own f1 f2;exact g2 s' _ q f3 f4 f2
   ·obtain⟨s',f1⟩:=ofO hj;rw[χs f1]at hsj;exact g4 s' Q2 (hs.2.2 j s' _ f1 hj).1 (fun q=>hne (by subst q;exact lU hs.1 f1 h1)) hsj
 let ψ:Ph:=⟨φ.f,φ.z,φ.y,fun x=>if x=b then X else φ.s x⟩
 have sle:SLe φ ψ:=⟨fun _ _ h=>h,fun _ h=>h⟩
 have old:∀x o q,H'.get x=some o->o.own=true->φ x=some q->x≠b/\x∉S/\H.get x=some o:=fun x o q hx ho hq=>by
  rcases hH x o hx with⟨rfl,_⟩|h
  ·rw[hbo]at hq;cases hq
  ·exact h
 refine⟨ψ,sle,⟨fun _ _ h=>h,fun _ h=>h,fun _ h=>h⟩,rfl,⟨hr.dom,fun x o hx=>?_,fun x y o o' q q' hx hy ho ho' hq hq' e=>hr.inj x y o o' q q' (old x o q hx ho hq).2.2 (old y o' q' hy ho' hq').2.2 ho ho' hq hq' e,hr.base,hr.size,fun q hq=>⟨⟨FzR.mono (φ:=φ) (ψ:=ψ) sle.z (hr.frz q hq).1.1,(hr.frz q hq).1.2⟩,fun x o px hx ho hpx=>(hr.frz q hq).2 x o px (old x o px hx ho hpx).2.2 ho hpx⟩,fun x Q' hx=>?_⟩⟩
 ·rcases hH x o hx with⟨rfl,rfl⟩|⟨_,_,h3⟩
  ·exact .inl ⟨hbo,rfl⟩
  ·rcases hr.live x o h3 with g|⟨q,ob,g1,g2,g3,g4⟩
   ·exact .inl g
   ·exact .inr ⟨q,ob,g1,g2,g3,g4.cO sle⟩
 ·rcases hH x _ hx with⟨rfl,h2⟩|⟨h1,h2,h3⟩
  ·injection h2 with h2;subst h2;have es:ψ.s x=X:=if_pos rfl
   rw[es];refine⟨hQ _ _ _ ⟨χ,fun _ h=>h,⟨T,by rw[χf hs0];exact hp⟩,hl⟩,fun B hB=>?_⟩;rcases hB with⟨i,s,q,h1,h2,rfl⟩|⟨i,s,Q2,h1,h2,h3⟩
   ·obtain⟨o,_,g2,g3⟩:=own h1 h2;obtain⟨ob,g4,_⟩:=hr.of g2 h2;rw[AO.bA g3]at g4;refine⟨⟨(hr.dom s q h2).2,g4⟩,fun y o' q' hy ho' hq' e=>?_,fun q2 hq2 e=>(hr.frz q2 hq2).2 s _ q g2 g3 h2 e.symm,fun y Q2 hy hne hsy=>?_⟩
    ·obtain⟨_,a2,a3⟩:=old y o' q' hy ho' hq';have:=hr.inj y s o' _ q' q a3 g2 ho' g3 hq' h2 e;subst this;exact a2 (List.mem_of_getElem? h1)
    ·rcases hH y _ hy with⟨q1,_⟩|⟨q1,_,q3⟩
     ·exact hne q1
     ·have:ψ.s y=φ.s y:=if_neg q1;rw[this]at hsy;exact((hr.sep y Q2 q3).2 _ hsy).2.1 s _ q g2 g3 h2 rfl
   ·obtain⟨f1,f2,f3,f4⟩:=(hr.sep s Q2 (hs.2.2 i s _ h1 h2).1).2 B h3;refine⟨f1,fun y o' q' hy ho' hq'=>f2 y o' q' (old y o' q' hy ho' hq').2.2 ho' hq',f3,fun y Q3 hy hne hsy=>?_⟩;rcases hH y _ hy with⟨q1,_⟩|⟨q1,q2,q3⟩
    ·exact hne q1
    ·have:ψ.s y=φ.s y:=if_neg q1;rw[this]at hsy;exact f4 y Q3 q3 (fun e=>q2 (e▸List.mem_of_getElem? h1)) hsy
  ·obtain⟨k1,k2⟩:=hr.sep x Q' h3;have es:ψ.s x=φ.s x:=if_neg h1;rw[es];refine⟨k1,fun B hB=>?_⟩;obtain⟨f1,f2,f3,f4⟩:=k2 B hB;refine⟨f1,fun y o' q' hy ho' hq'=>f2 y o' q' (old y o' q' hy ho' hq').2.2 ho' hq',f3,fun y Q3 hy hne hsy=>?_⟩;rcases hH y _ hy with⟨rfl,_⟩|⟨q1,q2,q3⟩
   ·have:ψ.s y=X:=if_pos rfl
    rw[this]at hsy;rcases hsy with⟨i,s,q,g1,g2,g3⟩|⟨i,s,Q2,g1,g2,g3⟩
    ·obtain⟨o,_,j2,j3⟩:=own g1 g2;exact f2 s _ q j2 j3 g2 g3
    ·exact f4 s Q2 (hs.2.2 i s _ g1 g2).1 (fun e=>h2 (e▸List.mem_of_getElem? g1)) g3
   ·have:ψ.s y=φ.s y:=if_neg q1;rw[this]at hsy;exact f4 y Q3 q3 hne hsy
theorem HR.hole (hr:HR φ H n h0 h):∃ψ,PLe φ ψ/\HR ψ (H.set (some (.sep .emp)) aa n) (n+1) h0 h:=by
 have cs:∀x o,(H.set (some (.sep .emp)) aa n).get x=some o->(x=n/\o= .sep .emp)∨(x≠n/\H.get x=some o):=fun x o hx=>by
  rcases PM.aj aa H n x o hx with⟨h1,h2⟩|h2
  ·injection h2 with h2;exact .inl ⟨h1,h2.symm⟩
  ·exact .inr h2
 have hno:φ n=none:=by
  cases e:φ n with
  |none=>rfl
  |some q=>exact absurd (hr.dom n q e).1 (Nat.lt_irrefl _)
 let ψ:Ph:=⟨φ.f,φ.z,φ.y,fun x=>if x=n then(fun _=>False)else φ.s x⟩
 have own:∀x o q,(H.set (some (.sep .emp)) aa n).get x=some o->φ x=some q->H.get x=some o:=fun x o q hx hq=>by
  rcases cs x o hx with⟨rfl,_⟩|⟨_,h3⟩
  ·rw[hno]at hq;cases hq
  ·exact h3
 have sle:SLe φ ψ:=⟨fun _ _ h=>h,fun _ h=>h⟩;refine⟨ψ,⟨fun _ _ h=>h,fun _ h=>h,fun _ h=>h⟩,⟨fun x q hx=>⟨by have:=(hr.dom x q hx).1;omega,(hr.dom x q hx).2⟩,fun x o hx=>?_,fun x y o o' q q' hx hy ho ho' hq hq' e=>hr.inj x y o o' q q' (own x o q hx hq) (own y o' q' hy hq') ho ho' hq hq' e,hr.base,hr.size,fun q hq=>⟨⟨FzR.mono (φ:=φ) (ψ:=ψ) sle.z (hr.frz q hq).1.1,(hr.frz q hq).1.2⟩,fun x o px hx ho hpx=>(hr.frz q hq).2 x o px (own x o px hx hpx) ho hpx⟩,fun x Q2 hx=>?_⟩⟩
 ·rcases cs x o hx with⟨rfl,rfl⟩|⟨_,h4⟩
  ·exact .inl ⟨hno,rfl⟩
  ·rcases hr.live x o h4 with g|⟨q,ob,g1,g2,g3,g4⟩
   ·exact .inl g
   ·exact .inr ⟨q,ob,g1,g2,g3,g4.cO sle⟩
 ·rcases cs x _ hx with⟨rfl,h2⟩|⟨h1,h4⟩
  ·injection h2 with h2;subst h2;have es:ψ.s x=fun _=>False:=if_pos rfl
   rw[es];exact⟨fun _ h=>h,fun X hX=>hX.elim⟩
  ·obtain⟨g0,g⟩:=hr.sep x Q2 h4;have es:ψ.s x=φ.s x:=if_neg h1;rw[es];refine⟨g0,fun X hX=>?_⟩;obtain⟨g1,g2,g3,g4⟩:=g X hX;refine⟨g1,fun y o q hy ho hq=>g2 y o q (own y o q hy hq) ho hq,g3,fun y Q4 hy hne hs=>?_⟩;rcases cs y _ hy with⟨rfl,_⟩|⟨q1,q4⟩
   ·have:ψ.s y=fun _=>False:=if_pos rfl
    rw[this]at hs;exact hs
   ·have:ψ.s y=φ.s y:=if_neg q1;rw[this]at hs;exact g4 y Q4 q4 hne hs
end
noncomputable def rf:List AO->Nat->AH->AH
 | [],_,H=>H
 |o::O,k,H=>rf O (k+1) (H.set (some o) aa k)
theorem mc:∀{O:List AO} {k:Nat} {H:AH} {x:Nat} {o:AO},(rf O k H).get x=some o->(∃i,x=k+i/\O[i]?=some o)∨((x<k∨k+O.length<=x)/\H.get x=some o)
 | [],k,H,x,o,h=> .inr ⟨by simp only[List.length_nil];omega,h⟩
 |a::O,k,H,x,o,h=>by
  rcases mc (O:=O) h with⟨i,rfl,h1⟩|⟨h1,h2⟩
  ·exact .inl ⟨i+1,by omega,h1⟩
  ·rcases PM.aj aa H k x o h2 with⟨rfl,h3⟩|⟨h3,h4⟩
   ·injection h3 with h3;subst h3;exact .inl ⟨0,rfl,rfl⟩
   ·exact .inr ⟨by simp only[List.length_cons];omega,h4⟩
def Uk (b n:Nat) (p:Nat×Nat) (κ:PK):PK:=fun v H2 n2=>∃(S:List Nat) (O2:List AO) (Q2:HP) (H3:AH),xY H2 S O2/\H2.get b=some (.sep .emp)/\b∉S/\S[0]?=some n/\(∀z X h,(vR O2 p).P z X h->Q2.P z X h)/\(∀x o,H3.get x=some o->(x=b/\o= .sep Q2)∨(x≠b/\x∉S/\H2.get x=some o))/\κ v H3 n2
section
variable {φ:Ph} {H:AH} {n:Nat} {h0 hp:Hp} {vs:Array Value} {κ:PK} {K:KH} {b:Nat} {O:List AO} {p:Nat×Nat} {Q:HP} {rest:List AV}
theorem ai.LW {f:FuncId} {run:List AV->AH->Nat->PK->Prop} (hrun:ai f run) (hr:HR φ H n h0 hp) (hbn:b<n) (hb:H.get b=some (.sep Q)) (hP:(vR O p).P φ.z (φ.s b) hp) (hargs:VRs φ (aQ p::rest) vs.toList) (hk:ck φ h0 κ K)
 (hs:run (.ptr n 0::rest) (rf (O.map (cx fun c=>n+c)) n (H.set (some (.sep .emp)) aa b)) (n+O.length) (Uk b n p κ)):dj Tryz.prog f vs hp K:=by
 obtain⟨ψ,T,hle,hψ,hr2⟩:=hr.Eg (H':=rf (O.map (cx fun c=>n+c)) n (H.set (some (.sep .emp)) aa b)) hbn hb hP fun x o hx=>by
  rcases mc hx with⟨i,h1,h2⟩|⟨h1,h2⟩
  ·rw[List.getElem?_map,Option.map_eq_some_iff]at h2;obtain⟨o',h2,h3⟩:=h2;exact .inl ⟨i,o',h1,h2,h3.symm⟩
  ·rcases PM.aj aa H b x o h2 with⟨h3,h4⟩|⟨h3,h4⟩
   ·injection h4 with h4;exact .inr (.inl ⟨h3,h4.symm⟩)
   ·exact .inr (.inr ⟨h3,by rw[List.length_map]at h1;exact h1,h4⟩)
 obtain⟨w1,us1,q1,e1,r1⟩:=hargs.cons_inv;have e1:w1=pS p:=e1;subst e1;refine hrun _ _ _ _ hs ψ h0 hp vs K hr2 (by rw[q1];exact .cons (VR.nZ hψ) (VRs.mono hle _ _ r1)) fun χ v H2 n2 u g hle2 hg hu ⟨S,O2,Q2,H3,g1,g2,g3,g4,g5,g6,g7⟩=>?_
 obtain⟨ω,_,hle3,_,hr3⟩:=hg.Iy g1 g2 g3 g4 (hle2.b _ _ hψ) g6 g5;exact hk ω v _ n2 u g ((hle.trans hle2).trans hle3) hr3 (VR.mono hle3 _ _ hu) g7
def Ul (b:Nat) (κ:PK):PK:=fun v H2 n2=>∃(S:List Nat) (O2:List AO) (Q2:Nat×Nat->HP) (H3:Nat×Nat->AH) (v2:Nat×Nat->AV) (s0:Nat) (o0:AO),xY H2 S O2/\H2.get b=some (.sep .emp)/\b∉S/\S[0]?=some s0/\O2[0]?=some o0/\o0.free=false/\(∀p z X h,(vR O2 p).P z X h->(Q2 p).P z X h)/\(∀p x o,(H3 p).get x=some o->(x=b/\o= .sep (Q2 p))∨(x≠b/\x∉S/\H2.get x=some o))/\(∀p φ T u,φ.f s0=some ⟨p.1,p.2,T⟩->VR φ v u->VR φ (v2 p) u)/\∀p,κ (v2 p) (H3 p) n2
theorem ai.Um {f:FuncId} {run:List AV->AH->Nat->PK->Prop} (hrun:ai f run) {args:List AV} (hr:HR φ H n h0 hp) (hargs:VRs φ args vs.toList) (hk:ck φ h0 κ K)
 (hs:run args (H.set (some (.sep .emp)) aa n) (n+1) fun v H2 n2=>Ul n κ v H2 n2∨∃H3,(∀x o,H3.get x=some o->H2.get x=some o)/\κ v H3 n2):dj Tryz.prog f vs hp K:=by
 obtain⟨ψ,hle,hr2⟩:=hr.hole;refine hrun _ _ _ _ hs ψ h0 hp vs K hr2 (VRs.mono hle _ _ hargs) fun χ v H2 n2 u g hle2 hg hu hR=>?_
 rcases hR with⟨S,O2,Q2,H3,v2,s0,o0,g1,g2,g3,g4,g5,g6,g7,g8,g9,g10⟩|⟨H3,g1,g2⟩
 ·obtain⟨j1,j2,j3⟩:=g1.2.2 0 s0 o0 g4 g5;rcases hg.live s0 _ j1 with⟨_,k2⟩|⟨q,ob,k1,_⟩
  ·rw[jZ,g6]at k2;cases k2
  ·have e:q=⟨(q.B,q.s).1,(q.B,q.s).2,q.T⟩:=rfl
   rw[e]at k1;obtain⟨ω,_,hle3,_,hr3⟩:=hg.Iy (Q:=Q2 (q.B,q.s)) g1 g2 g3 g4 k1 (g8 _) (g7 _);exact hk ω _ _ n2 u g ((hle.trans hle2).trans hle3) hr3 (VR.mono hle3 _ _ (g9 _ _ _ _ k1 hu)) (g10 _)
 ·exact hk χ v H3 n2 u g (hle.trans hle2) (hg.less g1) hu g2
end
def cD (p:Nat×Nat) (S:Sr) (L:Smp):HP:=HP.exi (fun C:Ck5=>jy S C/\ab C=L) fun C=>vR (iG S (pts C) C) p
def jQ (S:Sr) (L:Smp):Prop:=∃C,jy S C/\ab C=L
def ln (H:AH) (n:Nat):Prop:=n<800000/\PM.get H n=none/\PM.get H (n+1)=none/\PM.get H (n+2)=none/\PM.get H (n+3)=none
noncomputable def opS (H:AH) (n b:Nat) (S:Sr) (C:Ck5):AH:=PM.set (some (di S C)) aa (PM.set (some (.cells (aU (pts C)) true)) aa (PM.set (some (.cells (cR S (n+1) (pts C).length) true)) aa (PM.set (some (.sep .emp)) aa H b) n) (n+1)) (n+2)
theorem zD (H:AH) (n b:Nat) (S:Sr) (C:Ck5):rf ((iG S (pts C) C).map (cx fun c=>n+c)) n (PM.set (some (.sep .emp)) aa H b)=opS H n b S C:=by
 show rf [cx _ (.cells (cR S 1 (pts C).length) true),cx _ (.cells (aU (pts C)) true),cx _ (di S C)] n _=_
 (try simp only[cx,jx])
 rfl
section
variable {H:AH} {n b:Nat} {S:Sr} {C:Ck5}
theorem oi (hn:n<800000):ew (opS H n b S C) (n+3) n (n+1) (n+2) S (pts C) C:=
 ⟨⟨by omega,by omega,by omega⟩,⟨by omega,by omega,by omega⟩,
  PM.aC aa _ _ _ (aD (by omega)) (by omega) (PM.aC aa _ _ _ (aD (by omega)) (by omega) (PM.bF aa _ _ (aD (by omega)))),
  PM.aC aa _ _ _ (aD (by omega)) (by omega) (PM.bF aa _ _ (aD (by omega))),PM.bF aa _ _ (aD (by omega))⟩
theorem Gc (hbn:b<n) (hn:n<800000):PM.get (opS H n b S C) b=some (.sep .emp):=
 PM.aC aa _ _ _ (aD (by omega)) (by omega) (PM.aC aa _ _ _ (aD (by omega)) (by omega) (PM.aC aa _ _ _ (aD (by omega)) (by omega) (PM.bF aa _ _ (aD (by omega)))))
theorem LX (hn:n<800000) {x:Nat} {o:AO} (hx:x<n∨n+3<=x) (hxb:x≠b) (hbn:b<n) (h:PM.get H x=some o):PM.get (opS H n b S C) x=some o:=
 PM.aC aa _ _ _ (aD (by omega)) (by omega) (PM.aC aa _ _ _ (aD (by omega)) (by omega) (PM.aC aa _ _ _ (aD (by omega)) (by omega) (PM.aC aa _ _ _ (aD (by omega)) hxb h)))
theorem ln.ne (hR:ln H n) {x:Nat} {o:AO} (h:PM.get H x=some o):x≠n/\x≠n+1/\x≠n+2/\x≠n+3:=
 have key:∀m,PM.get H m=none->x≠m:=fun m hm e=>by rw[e,hm]at h;cases h
 ⟨key _ hR.2.1,key _ hR.2.2.1,key _ hR.2.2.2.1,key _ hR.2.2.2.2⟩
theorem ew.xZ {H2:AH} {n2 r k q:Nat} (h:ew H2 n2 r k q S (pts C) C):xY H2 [r,k,q] (iG S (pts C) C):=
 ⟨by simp[h.ne.1,h.ne.2.1,h.ne.2.2],rfl,fun i s o h1 h2=>by
  match i,h1,h2 with
  |0,h1,h2=>injection h1 with h1;injection h2 with h2;subst h1 h2;exact⟨h.hr,rfl,rfl⟩
  |1,h1,h2=>injection h1 with h1;injection h2 with h2;subst h1 h2;exact⟨by rw[cx,jx];exact h.hk,rfl,oM _ _⟩
  |2,h1,h2=>injection h1 with h1;injection h2 with h2;subst h1 h2;exact⟨h.hq,rfl,rfl⟩⟩
theorem Iz {n2 r k q:Nat} {S':Sr} {C':Ck5} {H2:AH} (hR:r<n2/\k<n2/\q<n2) (hne:r≠k/\r≠q/\k≠q) (hn:n2<890000):ew (fF H2 n2 r k q S' (pts C') C') (n2+1) r n2 q S' (pts C') C':=
 ⟨⟨by omega,by omega,by omega⟩,⟨by omega,by omega,by omega⟩,PM.bF aa _ _ (aD (by omega)),
  PM.aC aa _ _ _ (aD (by omega)) (by omega) (PM.aC aa _ _ _ (aD (by omega)) (by omega) (PM.aC aa _ _ _ (aD (by omega)) (by omega) (PM.bF aa _ _ (aD (by omega))))),
  PM.aC aa _ _ _ (aD (by omega)) (by omega) (PM.aC aa _ _ _ (aD (by omega)) (by omega) (PM.bF aa _ _ (aD (by omega))))⟩
theorem Ch {n2 r k q:Nat} {S':Sr} {C':Ck5} {H2:AH} (hn:n2<890000) (hR:r<n2/\k<n2/\q<n2) {x:Nat} {o:AO} (hx:x≠r/\x≠k/\x≠q/\x≠n2) (h:PM.get H2 x=some o):PM.get (fF H2 n2 r k q S' (pts C') C') x=some o:=
 PM.aC aa _ _ _ (aD (by omega)) hx.1 (PM.aC aa _ _ _ (aD (by omega)) hx.2.1 (PM.aC aa _ _ _ (aD (by omega)) hx.2.2.1 (PM.aC aa _ _ _ (aD (by omega)) hx.2.2.2 h)))
end
section
variable {f:FuncId} {run:List AV->AH->Nat->PK->Prop} {φ:Ph} {H:AH} {n:Nat} {h0 hp:Hp} {vs:Array Value} {κ:PK} {K:KH} {b:Nat} {p:Nat×Nat} {S:Sr} {L:Smp} {rest:List AV}
theorem IA (hrun:ai f run) (hr:HR φ H n h0 hp) (hbn:b<n) (hb:PM.get H b=some (.sep (cD p S L))) (hR:ln H n) (hargs:VRs φ (aQ p::rest) vs.toList) (hk:ck φ h0 κ K)
 (hs:∀C,jy S C->ab C=L->∃v,run (.ptr n 0::rest) (opS H n b S C) (n+3) (fun u H2 n2=>u=v/\H2=opS H n b S C/\n2=n+3)/\κ v H (n+3)):dj Tryz.prog f vs hp K:=by
 obtain⟨C,⟨h5,hf⟩,hP⟩:=(hr.sep b _ hb).1;obtain⟨v,h1,h2⟩:=hs C h5 hf;have h3:ai f fun args H n κ=>∃κ0:PK,run args H n κ0/\∀v H' n',κ0 v H' n'->κ v H' n':=fun args H n κ ⟨κ0,a1,a2⟩ φ h0 h vs K b1 b2 b3=>hrun args H n κ0 a1 φ h0 h vs K b1 b2 fun ψ v H' n' u g c1 c2 c3 c4=>b3 ψ v H' n' u g c1 c2 c3 (a2 _ _ _ c4)
 refine h3.LW hr hbn hb hP hargs hk ?_;rw[zD];refine⟨_,h1,fun u H2 n2 ⟨e1,e2,e3⟩=>?_⟩;subst e1 e2 e3;refine⟨[n,n+1,n+2],_,cD p S L,H,(oi hR.1).xZ,Gc hbn hR.1,by simp;omega,rfl,fun z X h hh=>⟨C,⟨h5,hf⟩,hh⟩,fun x o hx=>?_,h2⟩;by_cases hxb:x=b
 ·subst hxb;rw[hb]at hx;injection hx with hx;exact .inl ⟨rfl,hx.symm⟩
 ·have:=hR.ne hx;exact .inr ⟨hxb,by simp;omega,LX hR.1 (by omega) hxb hbn hx⟩
theorem IB (hrun:ai f run) (hr:HR φ H n h0 hp) (hbn:b<n) (hb:PM.get H b=some (.sep (cD p S L))) (hR:ln H n) (hargs:VRs φ (aQ p::rest) vs.toList) (hk:ck φ h0 κ K)
 (hs:∀C,jy S C->ab C=L->∃v o,run (.ptr n 0::rest) (opS H n b S C) (n+3) (fun u H2 n2=>u=v/\H2=PM.set (some o) aa (opS H n b S C) (n+3)/\n2=n+4)/\κ v (PM.set (some o) aa H (n+3)) (n+4)):dj Tryz.prog f vs hp K:=by
 obtain⟨C,⟨h5,hf⟩,hP⟩:=(hr.sep b _ hb).1;obtain⟨v,o0,h1,h2⟩:=hs C h5 hf;have h3:ai f fun args H n κ=>∃κ0:PK,run args H n κ0/\∀v H' n',κ0 v H' n'->κ v H' n':=fun args H n κ ⟨κ0,a1,a2⟩ φ h0 h vs K b1 b2 b3=>hrun args H n κ0 a1 φ h0 h vs K b1 b2 fun ψ v H' n' u g c1 c2 c3 c4=>b3 ψ v H' n' u g c1 c2 c3 (a2 _ _ _ c4)
 refine h3.LW hr hbn hb hP hargs hk ?_;rw[zD];refine⟨_,h1,fun u H2 n2 ⟨e1,e2,e3⟩=>?_⟩;subst e1 e2 e3
 have hat:ew (PM.set (some o0) aa (opS H n b S C) (n+3)) (n+4) n (n+1) (n+2) S (pts C) C:=by
  have:=oi (H:=H) (b:=b) (S:=S) (C:=C) hR.1;have hn:=hR.1;exact⟨this.ne,⟨by omega,by omega,by omega⟩,PM.aC aa _ _ _ (aD (by omega)) (by omega) this.hr,PM.aC aa _ _ _ (aD (by omega)) (by omega) this.hk,PM.aC aa _ _ _ (aD (by omega)) (by omega) this.hq⟩
 have hn:=hR.1;refine⟨[n,n+1,n+2],_,cD p S L,_,hat.xZ,PM.aC aa _ _ _ (aD (by omega)) (by omega) (Gc hbn hR.1),by simp;omega,rfl,fun z X h hh=>⟨C,⟨h5,hf⟩,hh⟩,fun x o hx=>?_,h2⟩;rcases PM.aj aa H (n+3) x o hx with⟨rfl,h6⟩|⟨h6,h7⟩
 ·injection h6 with h6;subst h6;exact .inr ⟨by omega,by simp,PM.bF aa _ _ (aD (by omega))⟩
 ·by_cases hxb:x=b
  ·subst hxb;rw[hb]at h7;injection h7 with h7;exact .inl ⟨rfl,h7.symm⟩
  ·have:=hR.ne h7;exact .inr ⟨hxb,by simp;omega,PM.aC aa _ _ _ (aD (by omega)) h6 (LX hR.1 (by omega) hxb hbn h7)⟩
theorem vT (hrun:ai f run) (hr:HR φ H n h0 hp) (hbn:b<n) (hb:PM.get H b=some (.sep (cD p S L))) (hR:ln H n) (hargs:VRs φ (aQ p::rest) vs.toList) (hk:ck φ h0 κ K) {v:AV} {S':Sr} {L':Smp}
 (hs:∀C,jy S C->ab C=L->run (.ptr n 0::rest) (opS H n b S C) (n+3) (fun u H2 n2=>u=v/\∃C',jy S' C'/\ab C'=L'/\H2=fF (opS H n b S C) (n+3) n (n+1) (n+2) S' (pts C') C'/\n2=n+4))
 (hκ:jQ S' L'->κ v (PM.set (some (.sep (cD p S' L'))) aa H b) (n+4)):dj Tryz.prog f vs hp K:=by
 obtain⟨C,⟨h5,hf⟩,hP⟩:=(hr.sep b _ hb).1;have h1:=hs C h5 hf;have h3:ai f fun args H n κ=>∃κ0:PK,run args H n κ0/\∀v H' n',κ0 v H' n'->κ v H' n':=fun args H n κ ⟨κ0,a1,a2⟩ φ h0 h vs K b1 b2 b3=>hrun args H n κ0 a1 φ h0 h vs K b1 b2 fun ψ v H' n' u g c1 c2 c3 c4=>b3 ψ v H' n' u g c1 c2 c3 (a2 _ _ _ c4)
 refine h3.LW hr hbn hb hP hargs hk ?_;rw[zD];refine⟨_,h1,fun u H2 n2 ⟨e1,C',f1,f2,e2,e3⟩=>?_⟩;subst e1 e2 e3;have hn:=hR.1;refine⟨[n,n+3,n+2],_,cD p S' L',_,(Iz (by omega) (by omega) (by omega)).xZ,Ch (by omega) (by omega) (by omega) (Gc hbn hR.1),by simp;omega,rfl,fun z X h hh=>⟨C',⟨f1,f2⟩,hh⟩,fun x o hx=>?_,hκ ⟨C',f1,f2⟩⟩;rcases PM.aj aa H b x o hx with⟨rfl,h6⟩|⟨h6,h7⟩
 ·injection h6 with h6;exact .inl ⟨rfl,h6.symm⟩
 ·have:=hR.ne h7;exact .inr ⟨h6,by simp;omega,Ch (by omega) (by omega) (by omega) (LX hR.1 (by omega) h6 hbn h7)⟩
end
abbrev s0:Sr:=⟨128,10,3,-1,0⟩
abbrev s1:Sr:=⟨128,10,3,5,0⟩
abbrev s2:Sr:=⟨128,10,3,20,10⟩
def rh (B:Sr->Smp->List AV->AV->Prop) (args:List AV) (H:AH) (n:Nat) (κ:PK):Prop:=match args with
 |x::ar=>∃(b:Nat) (p:Nat×Nat) (S:Sr) (L:Smp) (v:AV),x=aQ p/\b<n/\PM.get H b=some (.sep (cD p S L))/\ln H n/\B S L ar v/\κ v H (n+3)
 |_=>False
theorem oj {f:FuncId} {A:Sr->Ck5->List AV->AV->Prop} {B:Sr->Smp->List AV->AV->Prop} (hA:ai f (l9 A)) (h:∀S C L ar v,jy S C->ab C=L->B S L ar v->A S C ar v):ai f (rh B):=fun args H n κ hs φ h0' hp vs K hr hargs hk=>by
 unfold rh at hs;split at hs
 ·obtain⟨b,p,S,L,v,rfl,h2,h3,h4,h5,h6⟩:=hs;exact IA hA hr h2 h3 h4 hargs hk fun C h7 h8=>⟨v,⟨n,n+1,n+2,S,C,v,rfl,oi h4.1,h S C L _ v h7 h8 h5,rfl,rfl,rfl⟩,h6⟩
 ·exact hs.elim
def OK (S:Sr) (_:Smp) (ar:List AV) (v:AV):Prop:=ar=[]/\v= .si .i64 S.mx
def Se (S:Sr) (_:Smp) (ar:List AV) (v:AV):Prop:=ar=[]/\v= .si .i64 S.ret
def Sf (S:Sr) (_:Smp) (ar:List AV) (v:AV):Prop:=ar=[]/\v= .si .i64 S.pol
def Sh (_:Sr) (L:Smp) (ar:List AV) (v:AV):Prop:=ar=[]/\v=ra L
def Qy (_:Sr) (L:Smp) (ar:List AV) (v:AV):Prop:=ar=[]/\v= .si .i64 (L.length:Int)
theorem Un:ai 24 (rh OK):=oj T7 fun S C L ar v h5 _ ⟨h1,h2⟩=>⟨h1,h5.gt.lo,h2⟩
theorem Uo:ai 85 (rh Se):=oj Ua fun S C L ar v h5 _ ⟨h1,h2⟩=>⟨h1,h5.gt.lo,h2⟩
theorem Uq:ai 86 (rh Sf):=oj Ud fun S C L ar v h5 _ ⟨h1,h2⟩=>⟨h1,h5.gt.lo,h2⟩
theorem Ur:ai 18 (rh Sh):=oj Ow fun S C L ar v h5 hf ⟨h1,h2⟩=>by
 subst hf;exact⟨h1,h5.gt,by have:=h5.few;omega,h2⟩
theorem Si:ai 57 (rh Qy):=oj R8 fun S C L ar v h5 hf ⟨h1,h2⟩=>by
 subst hf;exact⟨h1,h5.okc,by have:=h5.few;omega,h2⟩
def Ge (B:Smp->List AV->Smp->Prop) (args:List AV) (H:AH) (n:Nat) (κ:PK):Prop:=match args with
 |x::ar=>∃(b:Nat) (p:Nat×Nat) (S:Sr) (L O:Smp),x=aQ p/\b<n/\PM.get H b=some (.sep (cD p S L))/\ln H n/\B L ar O/\κ (.rw (n+3) 0 O.length 2 0) (PM.set (some (.cells (smp O) true)) aa H (n+3)) (n+4)
 |_=>False
theorem LY {f:FuncId} {A:Sr->Ck5->List AV->Smp->Prop} {B:Smp->List AV->Smp->Prop} (hA:ai f (LP A)) (h:∀S C L ar O,jy S C->ab C=L->B L ar O->A S C ar O):ai f (Ge B):=fun args H n κ hs φ h0' hp vs K hr hargs hk=>by
 unfold Ge at hs;split at hs
 ·obtain⟨b,p,S,L,O,rfl,h2,h3,h4,h5,h6⟩:=hs;refine IB hA hr h2 h3 h4 hargs hk fun C h7 h8=>⟨_,_,⟨n,n+1,n+2,S,C,O,rfl,oi h4.1,⟨by have:=h4.1;omega,?_⟩,h S C L _ O h7 h8 h5,rfl,rfl,rfl⟩,h6⟩
  cases e:PM.get (opS H n b S C) (n+3)with
  |none=>rfl
  |some o=>
   have hn:=h4.1;rcases PM.aj aa _ _ _ _ e with⟨q,_⟩|⟨_,e⟩
   ·omega
   rcases PM.aj aa _ _ _ _ e with⟨q,_⟩|⟨_,e⟩
   ·omega
   rcases PM.aj aa _ _ _ _ e with⟨q,_⟩|⟨_,e⟩
   ·omega
   rcases PM.aj aa _ _ _ _ e with⟨q,_⟩|⟨_,e⟩
   ·omega
   rw[h4.2.2.2.2]at e;cases e
 ·exact hs.elim
def Eh (L:Smp) (ar:List AV) (O:Smp):Prop:=∃y z a b,ar=[y,z]/\mk y= .si .i64 a/\mk z= .si .i64 b/\O=bX a b L
theorem Us:ai 21 (Ge Eh):=LY Uj fun S C L ar O h5 hf ⟨y,z,a,b,h1,h2,h3,h4⟩=>by
 subst hf;exact⟨y,z,a,b,h1,h2,h3,h5.okc,h5.gt.up,by have:=h5.few;omega,h4⟩
def Gf (args:List AV) (H:AH) (n:Nat) (κ:PK):Prop:=match args with
 | [x,y,z]=>∃(b:Nat) (p:Nat×Nat) (S:Sr) (L:Smp) (t v q:Int) (S':Sr) (L':Smp) (e:Int),x=aQ p/\b<n/\PM.get H b=some (.sep (cD p S L))/\ln H n/\mR y t v/\mk z= .si .i64 q/\aN v/\L.length<=40000/\il S L t v q=((S',L'),e)/\(jQ S' L'->κ (.si .i64 e) (PM.set (some (.sep (cD p S' L'))) aa H b) (n+4))
 |_=>False
theorem Sj:ai 72 Gf:=fun args H n κ hs φ h0' hp vs K hr hargs hk=>by
 unfold Gf at hs;split at hs
 ·obtain⟨b,p,S,L,t,v,q,S',L',e,rfl,h2,h3,h4,h5,h6,h7,h8,h9,h10⟩:=hs;exact vT Sa hr h2 h3 h4 hargs hk (fun C g5 gf=>⟨n,n+1,n+2,S,C,t,v,q,L,S',L',e,rfl,h5,h6,oi h4.1,g5,h7,gf,h8,h9,fun C' f1 f2=>⟨rfl,C',f1,f2,rfl,rfl⟩⟩) h10
 ·exact hs.elim
def Gg (args:List AV) (H:AH) (n:Nat) (κ:PK):Prop:=match args with
 | [x,y,z]=>∃(b:Nat) (p:Nat×Nat) (S:Sr) (L:Smp) (a c:Int) (L':Smp) (m:Nat),x=aQ p/\b<n/\PM.get H b=some (.sep (cD p S L))/\ln H n/\mk y= .si .i64 a/\mk z= .si .i64 c/\L.length<=40000/\aO L a c=L'/\L.length-L'.length=m/\(jQ S L'->κ (.si .i64 (m:Int)) (PM.set (some (.sep (cD p S L'))) aa H b) (n+4))
 |_=>False
theorem Sk:ai 100 Gg:=fun args H n κ hs φ h0' hp vs K hr hargs hk=>by
 unfold Gg at hs;split at hs
 ·obtain⟨b,p,S,L,a,c,L',m,rfl,h2,h3,h4,h5,h6,h8,h9,h11,h10⟩:=hs;exact vT Sb hr h2 h3 h4 hargs hk (fun C g5 gf=>⟨n,n+1,n+2,S,C,a,c,L,L',m,rfl,h5,h6,oi h4.1,g5,gf,h8,h9,h11,fun C' f1 f2=>⟨rfl,C',f1,f2,rfl,rfl⟩⟩) h10
 ·exact hs.elim
def Gh (args:List AV) (H:AH) (n:Nat) (κ:PK):Prop:=match args with
 | [x,y,z]=>∃(b:Nat) (p:Nat×Nat) (S:Sr) (L:Smp) (r q:Int) (S':Sr) (L':Smp) (e:Int),x=aQ p/\b<n/\PM.get H b=some (.sep (cD p S L))/\ln H n/\mk y= .si .i64 r/\mk z= .si .i64 q/\L.length<=40000/\oe S L r q=((S',L'),e)/\(jQ S' L'->κ (.si .i64 e) (PM.set (some (.sep (cD p S' L'))) aa H b) (n+4))
 |_=>False
theorem Sl:ai 108 Gh:=fun args H n κ hs φ h0' hp vs K hr hargs hk=>by
 unfold Gh at hs;split at hs
 ·obtain⟨b,p,S,L,r,q,S',L',e,rfl,h2,h3,h4,h5,h6,h8,h9,h10⟩:=hs;exact vT Sc hr h2 h3 h4 hargs hk (fun C g5 gf=>⟨n,n+1,n+2,S,C,r,q,L,S',L',e,rfl,h5,h6,oi h4.1,g5,gf,h8,h9,fun C' f1 f2=>⟨rfl,C',f1,f2,rfl,rfl⟩⟩) h10
 ·exact hs.elim
theorem IC {H:AH} {n:Nat} {S:Sr} (hn:n<900000):ew (vM H n S) (n+3) n (n+1) (n+2) S (pts []) []:=
 ⟨⟨by omega,by omega,by omega⟩,⟨by omega,by omega,by omega⟩,PM.gne (by omega) (by omega) (PM.gne (by omega) (by omega) (PM.geq (by omega))),PM.gne (by omega) (by omega) (PM.geq (by omega)),PM.geq (by omega)⟩
theorem Ci {H:AH} {n x:Nat} {S:Sr} {o:AO} (hn:n<900000) (hx:x≠n/\x≠n+1/\x≠n+2) (h:PM.get H x=some o):PM.get (vM H n S) x=some o:=
 PM.gne (by omega) hx.2.2 (PM.gne (by omega) hx.2.1 (PM.gne (by omega) hx.1 h))
def zE (args:List AV) (H:AH) (n:Nat) (κ:PK):Prop:=match args with
 | [x,y,z]=>∃(sz ret q:Int) (r:Option Sr),mk x= .si .i64 sz/\mk y= .si .i64 ret/\mk z= .si .i64 q/\ln H n/\oZ sz ret q=r/\match r with
  |none=>κ (.tup [.nil,.int .i64 1]) H (n+1)
  |some S=>∀p,jQ S []->κ (.tup [aQ p,.int .i64 0]) (PM.set (some (.sep (cD p S []))) aa H n) (n+4)
 |_=>False
theorem Sm:ai 104 zE:=fun args H n κ hs φ h0' hp vs K hr hargs hk=>by
 unfold zE at hs;split at hs
 ·obtain⟨sz,ret,q,r,h1,h2,h3,h4,h5,h6⟩:=hs;have h9:=h4.1;refine Sd.Um hr hargs hk ?_;refine⟨sz,ret,q,r,h1,h2,h3,by omega,h5,?_⟩;cases r with
  |none=>
   refine .inr ⟨H,fun x o hx=>PM.gne (by omega) (h4.ne hx).1 hx,h6⟩
  |some S=>
   intro h5';refine .inl ⟨[n+1,n+2,n+3],iG S (pts []) [],fun p=>cD p S [],fun p=>PM.set (some (.sep (cD p S []))) aa H n,fun p=> .tup [aQ p,.int .i64 0],n+1,_,(IC (by omega)).xZ,Ci (by omega) (by omega) (PM.geq (by omega)),by simp,rfl,rfl,rfl,fun p z X h hh=>⟨[],⟨h5',rfl⟩,hh⟩,fun p x o hx=>?_,fun p φ T u hφ hu=>?_,fun p=>h6 p ⟨[],h5',rfl⟩⟩
   ·rcases PM.aj aa H n x o hx with⟨rfl,e⟩|⟨e1,e2⟩
    ·injection e with e;exact .inl ⟨rfl,e.symm⟩
    ·have:=h4.ne e2;exact .inr ⟨e1,by simp;omega,Ci (by omega) (by omega) (PM.gne (by omega) e1 e2)⟩
   ·obtain⟨cs,rfl,hc⟩:=hu.eQ;obtain⟨w,us,q1,e1,r1⟩:=hc.cons_inv;obtain⟨pl,e2,e3⟩:=e1.ct;rw[hφ]at e2;injection e2 with e2;subst e2;exact .tup (by rw[q1];exact .cons (by subst e3;exact rfl) r1)
 ·exact hs.elim
def Ei (args:List AV) (H:AH) (n:Nat) (κ:PK):Prop:=match args with
 | []=>κ (.sb true) H n
 |_=>False
theorem ah.aQ {H:AH} {m:Nat} {r:Nat->Nat} {a:AV} {p:Nat×Nat} (e:a=Go.Proofs.YtflehenfikoniaaGreat.aQ p):ah H m r a (Go.Proofs.YtflehenfikoniaaGreat.aQ p):=by
 subst e;exact fun φ ψ v _ _ h=>h
theorem lR.VQ {H:AH} {a:AV} {O:Smp} {b:Nat} (ha:a= .rw b 0 O.length 2 0) (hb:PM.get H b=some (.cells (smp O) true)):lR H a O:= .inr (.inl (.inl ⟨b,0,0,smp O,smp O,⟨ha,by decide⟩,.inr ⟨true,hb⟩,fh O,bJ O⟩))
def look (L:Smp) (t:Int):Option Int:=if has L t then some (vAt L (plc L t))else none
theorem jQ.dW {S:Sr} {L:Smp} (h:jQ S L):∀x∈L,(0<=x.1/\x.1<1099511627776)/\aN x.2:=by
 obtain⟨C,h1,rfl⟩:=h;intro x hx;obtain⟨l,hl,hx⟩:=List.mem_flatten.1 hx;obtain⟨c,hc,rfl⟩:=List.mem_map.1 hl;exact(h1.gt.dW c hc).2.1 x hx
def OL:DT:=[(8,[(some 1000000,[1,3]),(none,[0,1,2,3,4,5,6,7]),(none,[0,2,3,1,4,5,6,7])])]
noncomputable def Sn:FuncId->EP:=aV 58 OL (aw 118 vE evP)
theorem Gi:aW Sn:=aq (ae az N5) (by kernel_rfl) (by kernel_rfl)
noncomputable def cyM (S:Sr) (C C':Ck5):AH:=mkH [(0,.cells (cR S 1 (pts C).length) true),(1,.cells (aU (pts C)) true),(2,di S C),(3,di S C'),(4,.cells (cR S 5 (pts C').length) true),(5,.cells (aU (pts C')) true)]
abbrev cyo (C:Ck5) (i:Nat):List (Nat×AV):=[(3,.ptr 4 0),(16,.rw 1 0 (pts C).length 1 0),(17,.si .i64 ((pts C).length:Int)),(18,.si .i64 (i:Int))]
theorem Gj (k:Nat) {σ:AE} {H:AH} {n:Nat} {S:Sr} {C C':Ck5} {a5:AV} (le:List (Nat×AV)) (hk:5<=k) (he:∀x∈le,ah H 6 (fun c=>if c=5 then k else c) (ak (pa x.1) σ) x.2) (h0:PM.get H 0=some (.cells (cR S 1 (pts C).length) true)) (h1:PM.get H 1=some (.cells (aU (pts C)) true)) (h2:PM.get H 2=some (di S C)) (h3:PM.get H 3=some (di S C'))
 (h4:PM.get H 4=some (.cells [.si .i64 (S.sz:Int),.si .i64 S.ret,.si .i64 S.pol,.si .i64 S.mx,.si .i64 S.fl,a5] true)) (h45:ah H 6 (fun c=>if c=5 then k else c) a5 (.rw 5 0 (pts C').length 1 0)) (h5:(∃l,PM.get H k=some (.cells l true)/\l.map mk=aU (pts C'))∨(C'=[]/\n<=k)):Cov 4 σ H n (mkE le,cyM S C C',6):=by
 refine Cov.ofR (m:=6) (p:=4) (fun c=>if c=5 then k else c) (by decide) (fun b hb=>if_neg (by omega)) he ?_ (fun x hx y hy e=>?_)
 ·intro x hx;simp only[List.mem_cons,List.not_mem_nil,or_false]at hx;rcases hx with rfl|rfl|rfl|rfl|rfl|rfl
  ·exact⟨Nat.le_of_ble_eq_true rfl,.inl ⟨_,h0,au.cR rfl rfl rfl rfl rfl (ah.rw (Nat.le_of_ble_eq_true rfl) rfl)⟩⟩
  ·exact⟨Nat.le_of_ble_eq_true rfl,.inl ⟨_,h1,au.aU (aA _)⟩⟩
  ·exact⟨Nat.le_of_ble_eq_true rfl,.inl ⟨_,h2,au.sep _⟩⟩
  ·exact⟨Nat.le_of_ble_eq_true rfl,.inl ⟨_,h3,au.sep _⟩⟩
  ·exact⟨Nat.le_of_ble_eq_true rfl,.inl ⟨_,h4,au.cR rfl rfl rfl rfl rfl h45⟩⟩
  ·exact⟨Nat.le_of_ble_eq_true rfl,h5.elim (fun⟨l,q1,q2⟩=> .inl ⟨_,q1,au.aU q2⟩) (fun q=> .inr ⟨by rw[q.1];rfl,q.2⟩)⟩
 ·simp only[List.mem_cons,List.not_mem_nil,or_false]at hx hy;rcases hx with rfl|rfl|rfl|rfl|rfl|rfl<;>rcases hy with rfl|rfl|rfl|rfl|rfl|rfl<;>simp at e⊢<;>omega
theorem zF {H:AH} {σ:AE} {C:Ck5} {k i:Nat} (e3:ak (pa 3) σ= .ptr 4 0) (e16:ak (pa 16) σ= .rw 1 0 (pts C).length 1 0) (e17:mk (ak (pa 17) σ)= .si .i64 ((pts C).length:Int)) (e18:mk (ak (pa 18) σ)= .si .i64 (i:Int)):∀x∈cyo C i,ah H 6 (fun c=>if c=5 then k else c) (ak (pa x.1) σ) x.2:=fun x hx=>by
 simp only[List.mem_cons,List.not_mem_nil,or_false]at hx;rcases hx with rfl|rfl|rfl|rfl
 ·exact ah.ptr (Nat.le_of_ble_eq_true rfl) e3
 ·exact ah.rw (Nat.le_of_ble_eq_true rfl) e16
 ·exact ah.int e17
 ·exact ah.int e18
def CyP (S:Sr) (C:Ck5):PK:=fun u H' m=>u= .ptr 4 0/\m=6/\∃C',cnt C'=cnt C/\H'=cyM S C C'
theorem ID (S:Sr) (C:Ck5) (hO:Okc S C):fG (ax Sn 5 58) [.ptr 0 0] (mkH (bH (iG S (pts C) C++ [di S []]) 0)) 4 (CyP S C):=by
 have hl:=hO.few;have hlo:=hO.lo;show ax Sn 5 _ _ _ _ _
 conv=>whnf
 refine ag.dh (fun z=>absurd (show(0:Int)<(S.sz:Int) by omega) z) (fun _=>?_)
 conv=>whnf
 refine aS.mk {x:Nat×Ck5//x.1<=C.length/\cnt x.2=(cnt C).take x.1} 6 (fun x=>(mkE (cyo C x.val.1),cyM S C x.val.2)) (fun x=>C.length-x.val.1) ⟨(0,[]),Nat.zero_le _,rfl⟩ ?_ ?_
 focus
  exact Gj (C':=[]) 5 _ (Nat.le_refl _) (zF rfl rfl rfl rfl) rfl rfl rfl rfl rfl (ah.iD rfl) (.inr ⟨rfl,Nat.le_refl _⟩)
 intro⟨(i,C'),hi,hC'⟩;dsimp only at hi hC';have hw:IntKind.i64.wrap ((i:Int)+1)=((i+1:Nat):Int):=by rw[al (by omega) (by omega)];omega
 have hl':C'.length=i:=by have:=congrArg List.length hC';rw[dN,List.length_take,dN]at this;omega
 conv=>whnf
 refine ag.dec (fun h=>?_) (fun h=>?_)
 focus
  have h2:i<C.length:=by
   have h:(i:Int)<((pts C).length:Int):=h;rw[ao]at h;omega
  have hst:∀q,cnt (C'++ [(q,C[i].2)])=(cnt C).take (i+1):=fun q=>by
   rw[List.take_succ_eq_append_getElem (by rw[dN];exact h2),<-hC'];unfold cnt;rw[List.map_append,List.getElem_map];rfl
  have hM:∀q,(aU (pts C')++ [aQ q]).map mk=aU (pts (C'++ [(q,C[i].2)])):=fun q=>by rw[jW,qY,List.map_append,aA];rfl
  have hln:∀q,(pts C').length+1=(pts (C'++ [(q,C[i].2)])).length:=fun q=>by rw[ao,ao,List.length_append];rfl
  conv=>whnf
  refine Idx.mk i rfl (by rw[ao];exact h2) ?_
  conv=>whnf
  refine ay (dH h2 (show 0+i*1=i by omega)) ?_
  conv=>whnf
  refine⟨?_,?_,trivial⟩
  focus
   conv=>whnf
   refine⟨2,3,S.sz,C.take i,C.drop (i+1),C',C[i].1,C[i].2,fun q=>C'++ [(q,C[i].2)],rfl,⟨by decide,by decide,rfl,congrArg some (oO h2)⟩,by decide,⟨by decide,by decide,rfl,rfl⟩,rfl,by decide,by omega,fun q=>⟨eT.refl _ _,?_⟩⟩
   conv=>whnf
   refine bC.grow 1 8 1 (pts C').length [aQ q] (aU (pts C')) _ true B3 (.old rfl) rfl rfl (.rw rfl (bq (by rw[bS,Nat.mul_one]))) (by rw[ao];omega) ?_
   conv=>whnf
   exact⟨⟨(i+1,C'++ [(q,C[i].2)]),h2,hst q⟩,by show C.length-(i+1)<C.length-i;omega,Gj 9 _ (by decide) (zF rfl rfl rfl (congrArg (AV.si .i64) hw)) rfl rfl rfl rfl rfl (ah.rw (Nat.le_of_ble_eq_true rfl) (congrArg (fun m=>AV.rw 9 0 m 1 0) (hln q))) (.inl ⟨_,rfl,hM q⟩)⟩
  conv=>whnf
  refine⟨2,3,S.sz,C.take i,C.drop (i+1),C',C[i].1,C[i].2,fun q=>C'++ [(q,C[i].2)],rfl,⟨by decide,by decide,rfl,congrArg some (oO h2)⟩,by decide,⟨by decide,by decide,rfl,rfl⟩,rfl,by decide,by omega,fun q=>⟨eT.refl _ _,?_⟩⟩
  conv=>whnf
  refine bC.grow 1 8 1 (pts C').length [aQ q] (aU (pts C')) _ true B3 (.old rfl) rfl rfl (.rw rfl (bq (by rw[bS,Nat.mul_one]))) (by rw[ao];omega) ?_
  conv=>whnf
  exact⟨⟨(i+1,C'++ [(q,C[i].2)]),h2,hst q⟩,by show C.length-(i+1)<C.length-i;omega,Gj 9 _ (by decide) (zF rfl rfl rfl (congrArg (AV.si .i64) hw)) rfl rfl rfl rfl rfl (ah.rw (Nat.le_of_ble_eq_true rfl) (congrArg (fun m=>AV.rw 9 0 m 1 0) (hln q))) (.inl ⟨_,rfl,hM q⟩)⟩
 have h2:i=C.length:=by
  have h:¬(i:Int)<((pts C).length:Int):=h;rw[ao]at h;omega
 have hE:cnt C'=cnt C:=by rw[hC',h2,<-dN C,List.take_length]
 conv=>whnf
 exact⟨.ptr 4 0,cyM S C C',6,Gj 5 [(0,.ptr 4 0)] (Nat.le_refl _) (fun x hx=>by
  simp only[List.mem_cons,List.not_mem_nil,or_false]at hx;subst hx;exact ah.ptr (Nat.le_of_ble_eq_true rfl) rfl) rfl rfl rfl rfl rfl (ah.rw (Nat.le_of_ble_eq_true rfl) rfl) (.inl ⟨_,rfl,aA _⟩),rfl,rfl,C',hE,rfl⟩
theorem p8 {O:List AO} {H:AH} {n b:Nat} (x:Nat) (o:AO) (hx:(rf (O.map (cx fun c=>n+c)) n (PM.set (some (.sep .emp)) aa H b)).get x=some o):(∃i o',x=n+i/\O[i]?=some o'/\o=cx (fun c=>n+c) o')∨(x=b/\o= .sep .emp)∨(x≠b/\(x<n∨n+O.length<=x)/\H.get x=some o):=by
 rcases mc hx with⟨i,h1,h2⟩|⟨h1,h2⟩
 ·rw[List.getElem?_map,Option.map_eq_some_iff]at h2;obtain⟨o',h2,h3⟩:=h2;exact .inl ⟨i,o',h1,h2,h3.symm⟩
 ·rcases PM.aj aa H b x o h2 with⟨h3,h4⟩|⟨h3,h4⟩
  ·injection h4 with h4;exact .inr (.inl ⟨h3,h4.symm⟩)
  ·exact .inr (.inr ⟨h3,by rw[List.length_map]at h1;exact h1,h4⟩)
theorem zG {C C':Ck5} (e:cnt C'=cnt C) {P:Smp->Prop} (h:∀c∈C,P c.2):∀c∈C',P c.2:=fun c hc=>by
 have:c.2∈cnt C:=by rw[<-e];exact List.mem_map_of_mem hc
 obtain⟨d,hd,q⟩:=List.mem_map.1 this;have hd2:d.2=c.2:=q;rw[<-hd2];exact h d hd
theorem jy.cnt {S:Sr} {C C':Ck5} (h:jy S C) (e:Go.Proofs.YtflehenfikoniaaGreat.cnt C'=Go.Proofs.YtflehenfikoniaaGreat.cnt C):jy S C':=by
 have hf:ab C'=ab C:=by unfold ab;rw[e]
 have hl:C'.length=C.length:=by rw[<-dN,e,dN]
 have hg:∀j (h1:j<C'.length) (h2:j<C.length),C'[j].2=C[j].2:=fun j h1 h2=>by
  have:(Go.Proofs.YtflehenfikoniaaGreat.cnt C')[j]?=(Go.Proofs.YtflehenfikoniaaGreat.cnt C)[j]?:=by rw[e]
  unfold Go.Proofs.YtflehenfikoniaaGreat.cnt at this;rw[List.getElem?_map,List.getElem?_map,List.getElem?_eq_getElem h1,List.getElem?_eq_getElem h2]at this;injection this
 refine⟨⟨⟨h.gt.lo,h.gt.hi,by rw[hf];exact h.gt.up,zG e h.gt.dW,zG e (P:=fun l=>(aT l).length<=8*S.sz) h.gt.fit⟩,zG e (P:=fun l=>l≠[]) h.gt.all⟩,fun j h1 h2=>?_,h.num,by rw[hf];exact h.few⟩;rw[hg j (by omega) (by omega),hg (j+1) (by omega) (by omega)];exact h.wh j (by omega) (by omega)
def Cj (args:List AV) (H:AH) (n:Nat) (κ:PK):Prop:=match args with
 | [x]=>∃(b:Nat) (p:Nat×Nat) (S:Sr) (L:Smp),x=aQ p/\b<n/\PM.get H b=some (.sep (cD p S L))/\ln H n/\ln H (n+4)/\∀p2,κ (aQ p2) (PM.set (some (.sep (cD p2 S L))) aa H n) (n+7)
 |_=>False
noncomputable def cyH (H:AH) (n:Nat) (S:Sr) (C C':Ck5):AH:=PM.set (some (.cells (cR S (n+2) (pts C).length) true)) aa (PM.set (some (.cells (aU (pts C)) true)) aa (PM.set (some (di S C)) aa (PM.set (some (di S C')) aa (PM.set (some (.cells (cR S (n+6) (pts C').length) true)) aa (PM.set (some (.cells (aU (pts C')) true)) aa H (n+6)) (n+5)) (n+4)) (n+3)) (n+2)) (n+1)
theorem LZ {H:AH} {n x:Nat} {S:Sr} {C C':Ck5} {o:AO} (hn:n<800000) (hx:x<n+1∨n+7<=x) (h:PM.get H x=some o):PM.get (cyH H n S C C') x=some o:=
 PM.gne (by omega) (by omega) (PM.gne (by omega) (by omega) (PM.gne (by omega) (by omega) (PM.gne (by omega) (by omega) (PM.gne (by omega) (by omega) (PM.gne (by omega) (by omega) h)))))
theorem So {H:AH} {n:Nat} {S:Sr} {C C':Ck5} (hn:n<800000):ew (cyH H n S C C') (n+7) (n+1) (n+2) (n+3) S (pts C) C:=
 ⟨⟨by omega,by omega,by omega⟩,⟨by omega,by omega,by omega⟩,PM.geq (by omega),PM.gne (by omega) (by omega) (PM.geq (by omega)),PM.gne (by omega) (by omega) (PM.gne (by omega) (by omega) (PM.geq (by omega)))⟩
noncomputable def Sp (H:AH) (n b:Nat) (S:Sr) (C C':Ck5) (Q:HP):AH:=PM.set (some (.sep Q)) aa (PM.set none aa (PM.set none aa (PM.set none aa (cyH H n S C C') (n+1)) (n+2)) (n+3)) b
theorem vU {H:AH} {n b x:Nat} {S:Sr} {C C':Ck5} {Q:HP} {o:AO} (hn:n<800000) (hb:b<n) (hx:x≠b/\x≠n+1/\x≠n+2/\x≠n+3) (h:PM.get (cyH H n S C C') x=some o):PM.get (Sp H n b S C C' Q) x=some o:=
 PM.gne (by omega) hx.1 (PM.gne (by omega) hx.2.2.2 (PM.gne (by omega) hx.2.2.1 (PM.gne (by omega) hx.2.1 h)))
theorem OM {H:AH} {n b:Nat} {S:Sr} {C C':Ck5} {Q:HP} (hn:n<800000) (hb:b<n):ew (Sp H n b S C C' Q) (n+7) (n+5) (n+6) (n+4) S (pts C') C':=
 ⟨⟨by omega,by omega,by omega⟩,⟨by omega,by omega,by omega⟩,
  vU hn hb (by omega) (PM.gne (by omega) (by omega) (PM.gne (by omega) (by omega) (PM.gne (by omega) (by omega) (PM.gne (by omega) (by omega) (PM.geq (by omega)))))),
  vU hn hb (by omega) (PM.gne (by omega) (by omega) (PM.gne (by omega) (by omega) (PM.gne (by omega) (by omega) (PM.gne (by omega) (by omega) (PM.gne (by omega) (by omega) (PM.geq (by omega))))))),
  vU hn hb (by omega) (PM.gne (by omega) (by omega) (PM.gne (by omega) (by omega) (PM.gne (by omega) (by omega) (PM.geq (by omega)))))⟩
theorem ON:ai 58 Cj:=fun args H n κ hs φ h0' hp vs K hr hargs hk=>by
 unfold Cj at hs;split at hs
 ·obtain⟨b,p,S,L,rfl,hbn,hb,hR,hR2,hs⟩:=hs;have hn:=hR.1;obtain⟨ψ1,l1,hr1⟩:=hr.hole;have hb1:PM.get (PM.set (some (.sep .emp)) aa H n) b=some (.sep (cD p S L)):=PM.gne (by omega) (by omega) hb;obtain⟨C,⟨h5,hf⟩,hP⟩:=(hr1.sep b _ hb1).1;obtain⟨ψ2,T,l2,hψ2,hr2⟩:=hr1.Eg (O:=iG S (pts C) C) (show b<n+1 by omega) hb1 hP p8;rw[zD]at hr2;have hr2:HR ψ2 (opS (PM.set (some (.sep .emp)) aa H n) (n+1) b S C) (n+4) h0' hp:=hr2;obtain⟨ψ3,l3,hr3⟩:=hr2.TH;have hat:=oi (H:=PM.set (some (.sep .emp)) aa H n) (n:=n+1) (b:=b) (S:=S) (C:=C);have hob:=Gc (H:=PM.set (some (.sep .emp)) aa H n) (n:=n+1) (b:=b) (S:=S) (C:=C) (by omega)
  have hox:∀x o,PM.get H x=some o->x≠b->PM.get (opS (PM.set (some (.sep .emp)) aa H n) (n+1) b S C) x=some o:=fun x o hx hxb=>by
   have:=hR.ne hx;have:=hR2.ne hx;by_cases q:n+4<=x∨x<n+1
   ·have hxn:x≠n:=by omega
    unfold opS;exact PM.gne (by omega) (by omega) (PM.gne (by omega) (by omega) (PM.gne (by omega) (by omega) (PM.gne (by omega) hxb (PM.gne (by omega) hxn hx))))
   ·omega
  have hhole:PM.get (opS (PM.set (some (.sep .emp)) aa H n) (n+1) b S C) n=some (.sep .emp):=PM.gne (by omega) (by omega) (PM.gne (by omega) (by omega) (PM.gne (by omega) (by omega) (PM.gne (by omega) (by omega) (PM.geq (by omega)))));generalize hO:opS (PM.set (some (.sep .emp)) aa H n) (n+1) b S C=O at*;have hnn:n+1<800000:=by have:=hR2.1;omega
  obtain⟨a1,a2,a3,a4,a5⟩:=hat hnn;have hob:=hob hnn;obtain⟨w1,us1,q1,e1,r1⟩:=hargs.cons_inv;have e1:w1=pS p:=e1;subst e1;have hψ3:ψ3 (n+1)=some ⟨p.1,p.2,T⟩:=l3.b _ _ hψ2
  have hh:iL (PM.set (some (.sep (pk []))) aa O (n+4)) (n+5) [n+1,n+2,n+3,n+4] (iG S (pts C) C++ [di S []]):=⟨by simp,rfl,fun i s o h1 h2=>by
   match i,h1,h2 with
   |0,h1,h2=>injection h1 with h1;injection h2 with h2;subst h1 h2;exact⟨by omega,PM.gne (by omega) (by omega) a3,.inr rfl⟩
   |1,h1,h2=>injection h1 with h1;injection h2 with h2;subst h1 h2;exact⟨by omega,PM.gne (by omega) (by omega) (by rw[cx,jx];exact a4),.inr rfl⟩
   |2,h1,h2=>injection h1 with h1;injection h2 with h2;subst h1 h2;exact⟨by omega,PM.gne (by omega) (by omega) a5,.inr rfl⟩
   |3,h1,h2=>injection h1 with h1;injection h2 with h2;subst h1 h2;exact⟨by omega,PM.geq (by omega),.inr rfl⟩⟩
  refine dy (args0:=[.ptr 0 0]) (κ:=fun v H2 n2=>v= .ptr (n+5) 0/\n2=n+7/\∃C',cnt C'=cnt C/\H2=cyH (PM.set (some (.sep (pk []))) aa O (n+4)) n S C C') (an Gi 5 _).fG (by kernel_rfl) hr3 hh (by rw[q1];exact .cons (VR.nZ hψ3) (VRs.mono ((l1.trans l2).trans l3) _ _ r1)) ?_ (ID S C h5.okc) fun u H' n' ⟨g0,g1,C',g2,g3⟩=>?_
  ·intro χ v H2 n2 u g hle2 hg hu ⟨g1,g2,C',g3,g4⟩;subst g1 g2 g4
   obtain⟨ω1,_,k1,_,hr4⟩:=hg.Iy (O:=iG S (pts C) C) (S:=[n+1,n+2,n+3]) (b:=b) (p:=p) (Q:=cD p S L) (H':=Sp (PM.set (some (.sep (pk []))) aa O (n+4)) n b S C C' (cD p S L)) (So hn).xZ (LZ hn (by omega) (PM.gne (by omega) (by omega) hob)) (by simp;omega) rfl (hle2.b _ _ hψ3) (fun x o hx=>by
    rcases PM.aj aa _ b x o hx with⟨j1,j2⟩|⟨j1,j2⟩
    ·injection j2 with j2;exact .inl ⟨j1,j2.symm⟩
    rcases PM.aj aa _ _ x o j2 with⟨_,j3⟩|⟨j3,j4⟩
    ·cases j3
    rcases PM.aj aa _ _ x o j4 with⟨_,j5⟩|⟨j5,j6⟩
    ·cases j5
    rcases PM.aj aa _ _ x o j6 with⟨_,j7⟩|⟨j7,j8⟩
    ·cases j7
    exact .inr ⟨j1,by simp;omega,j8⟩) fun z X h hh=>⟨C,⟨h5,hf⟩,hh⟩
   have at2:=OM (H:=PM.set (some (.sep (pk []))) aa O (n+4)) (S:=S) (C:=C) (C':=C') (Q:=cD p S L) hn hbn;rcases hr4.live _ _ at2.hr with⟨_,k2⟩|⟨q,ob,k2,_⟩
   ·cases k2
   have eq:q=⟨(q.B,q.s).1,(q.B,q.s).2,q.T⟩:=rfl
   rw[eq]at k2
   obtain⟨ω2,_,k3,_,hr5⟩:=hr4.Iy (O:=iG S (pts C') C') (S:=[n+5,n+6,n+4]) (b:=n) (p:=(q.B,q.s)) (Q:=cD (q.B,q.s) S L) (H':=PM.set (some (.sep (cD (q.B,q.s) S L))) aa H n) at2.xZ (vU hn hbn (by omega) (LZ hn (by omega) (PM.gne (by omega) (by omega) hhole))) (by simp) rfl k2 (fun x o hx=>by
    rcases PM.aj aa _ n x o hx with⟨j1,j2⟩|⟨j1,j2⟩
    ·injection j2 with j2;exact .inl ⟨j1,j2.symm⟩
    have:=hR.ne j2;have:=hR2.ne j2;refine .inr ⟨j1,by simp;omega,?_⟩;by_cases hxb:x=b
    ·subst hxb;rw[hb]at j2;injection j2 with j2;subst j2;exact PM.geq (by omega)
    ·exact vU hn hbn (by omega) (LZ hn (by omega) (PM.gne (by omega) (by omega) (hox x o j2 hxb)))) fun z X h hh=>⟨C',⟨h5.cnt g3,by unfold ab;rw[g3];exact hf⟩,hh⟩
   obtain⟨pl,f1,f2⟩:=hu.ct;have f3:=k1.b _ _ f1;rw[k2]at f3;injection f3 with f3;refine hk ω2 (aQ (q.B,q.s)) _ _ u g (((((l1.trans l2).trans l3).trans hle2).trans k1).trans k3) hr5 ?_ (hs (q.B,q.s));subst f2 f3;exact rfl
  ·subst g0 g1 g3;refine⟨6,jI [n+1,n+2,n+3,n+4] (n+5) (PM.set (some (.sep (pk []))) aa O (n+4)) [(0,some (.cells (cR S 1 (pts C).length) true)),(1,some (.cells (aU (pts C)) true)),(2,some (di S C)),(3,some (di S C')),(4,some (.cells (cR S 5 (pts C').length) true)),(5,some (.cells (aU (pts C')) true))],Nat.le_of_ble_eq_true rfl,fq.put (Nat.le_of_ble_eq_true rfl) rfl (fun x hx o ho=>?_),rfl,rfl,rfl,C',g2,?_⟩
   ·simp only[List.mem_cons,List.not_mem_nil,or_false]at hx;rcases hx with rfl|rfl|rfl|rfl|rfl|rfl
    ·injection ho with ho;subst ho;exact⟨rfl,rfl,rfl⟩
    ·injection ho with ho;subst ho;exact⟨rfl,rfl,oM _ _⟩
    ·injection ho with ho;subst ho;exact⟨rfl,rfl,rfl⟩
    ·injection ho with ho;subst ho;exact⟨rfl,rfl,rfl⟩
    ·injection ho with ho;subst ho;exact⟨rfl,rfl,rfl⟩
    ·injection ho with ho;subst ho;exact⟨rfl,rfl,oM _ _⟩
   ·simp only[jI,Option.map_some,Option.map_none,cx,jx];rfl
 ·exact hs.elim
section
variable {φ ψ:Ph} {H:AH} {n:Nat} {h0 hp:Hp}
theorem Ck {H':AH} {n':Nat} {g:Hp} (hr:HR φ H n h0 hp) (hg:HR ψ H' n' hp g) (hy:∀q,ψ.y q->φ.z q):∃χ,PLe φ χ/\HR χ H n h0 g/\∀q,ψ.z q->χ.z q:=by
 have hg2:HR φ H n h0 g:=hr.grow (fun b o hb=>(hg.base b o hb).2) hg.size
 have hb0:∀B,hp.f B=none->h0.f B=none:=fun B e=>by
  cases q:h0.f B with
  |none=>rfl
  |some o=>have:=(hr.base B o q).2;rw[e]at this;cases this
 have own:∀B,hp.f B=none->∀b o p,H.get b=some o->o.own=true->φ b=some p->p.B≠B:=fun B e b o p hb hw hp' q=>by
  obtain⟨ob,_,h1,_⟩:=hr.of hb hp';rw[q,e]at h1;cases h1
 have nsp:∀B,hp.f B=none->∀b Q,H.get b=some (.sep Q)->¬φ.s b B:=fun B e b Q hb hB=>by
  obtain⟨o,ho⟩:=Q.ex _ _ _ _ (hr.sep b Q hb).1 hB;rw[e]at ho;cases ho
 have sub:∀q,ψ.z q->(φ.more fun q=>ψ.z q/\hp.f q.B=none).z q:=fun q hq=>by
  obtain⟨⟨_,hyq⟩,_⟩:=hg.frz q hq;rcases hyq with hyq|hyq
  ·exact .inl (hy q hyq)
  ·exact .inr ⟨hq,hyq⟩
 refine⟨φ.more fun q=>ψ.z q/\hp.f q.B=none,φ.oJ _,hg2.more fun q hq=>?_,sub⟩;obtain⟨⟨hf,_⟩,_⟩:=hg.frz q hq.1;exact⟨FzR.mono sub hf,hb0 _ hq.2,own _ hq.2,nsp _ hq.2⟩
end
theorem HR.VS {φ:Ph} {H:AH} {n:Nat} {h0 h:Hp} (hr:HR φ H n h0 h) {b m k x:Nat} {l s:List AV} {z:Bool} {v:Value} (hb:H.get b=some (.cells l z)) (hv:VR φ (.rw b 0 m k x) v) (hx:x≠4) (hs:s.all nL=true) (hsl:s.length=m*k) (hmk:∀(i:Nat) a',s[i]?=some a'->∃a,l[i]?=some a/\∀w,VR φ a w->VR φ a' w) (hll:l.length=m*k):
 ∃χ,PLe φ χ/\HR χ (H.set none aa b) n h0 h/\VR χ (.fr m k s) v:=by
 have hk:=hr.kill aa b;rcases hv.gz with⟨h1,hem⟩|⟨p,a,C,hpb,rfl,h2,h3,h4,h5,_,_⟩
 ·have hs0:s=[]:=List.eq_nil_of_length_eq_zero (by rw[hsl,h1,Nat.zero_mul]);subst h1 hs0;rw[hem.nil hx];exact⟨φ,.refl φ,hk,.fre fun _=>rfl⟩
 ·by_cases hm:m=0
  ·have hs0:s=[]:=List.eq_nil_of_length_eq_zero (by rw[hsl,hm,Nat.zero_mul]);subst hm hs0;exact⟨φ,.refl φ,hk,.fre fun q=>by cases q⟩
  ·have ha:=h2 hm;subst ha;obtain⟨ob,hq0,hq1,cc,t,fz,rfl,o1,o2,o3,o4,o5⟩:=hr.of hb hpb;refine⟨φ.more fun q=>q=⟨p.B,p.s+0,s⟩,φ.oJ _,hk.more fun q hq=>?_,?_⟩
   ·subst hq;refine⟨⟨⟨(hr.dom _ _ hpb).2,hs⟩,cc,t,fz,hq1,(show p.s+0+s.length<=cc.size by omega),fun i a' hi=>?_⟩,hq0,fun b' o' p' e1 e2 e3 e4=>?_,fun b' Q e1 e2=>?_⟩
    ·obtain⟨a,g1,g2⟩:=hmk i a' hi;obtain⟨v,g3,g4⟩:=o5 i a g1;exact⟨v,g3,VR.mono (φ.oJ _) _ _ (g2 v g4)⟩
    ·rcases PM.aj aa H b b' o' e1 with⟨_,h⟩|⟨h6,h7⟩
     ·cases h
     ·exact h6 (hr.inj b' b o' _ p' p h7 hb e2 rfl e3 hpb e4)
    ·rcases PM.aj aa H b b' _ e1 with⟨_,h⟩|⟨_,h⟩
     ·cases h
     ·exact((hr.sep b' Q h).2 _ e2).2.1 b _ p hb rfl hpb rfl
   ·have:VR (φ.more fun q=>q=⟨p.B,p.s+0,s⟩) (.fr m k s) (.slice (some ⟨p.B,p.s+0+0,none⟩) m C):= .fr (q:=⟨p.B,p.s+0,s⟩) (o:=0) (.inr rfl) h4 (bq hsl);exact this
def IE:AV->Bool
 | .agg l=>l.all nL
 |v=>nL v
def iH:AV->Bool
 | .tup l=>l.all IE
 |v=>IE v
theorem x0 {φ ψ:Ph} (hz:∀q,φ.z q->ψ.z q):∀{l:List AV} {vs:List Value},l.all nL=true->VRs φ l vs->VRs ψ l vs
 | [],_,_,h=>by rw[h.aM];exact .nil
 |a::l,vs,hs,h=>by
  obtain⟨v,us,rfl,h1,h2⟩:=h.cons_inv;simp only[List.all_cons,Bool.and_eq_true]at hs;exact .cons (k7 hz hs.1 h1) (x0 hz hs.2 h2)
theorem Gk {φ ψ:Ph} (hz:∀q,φ.z q->ψ.z q) {a:AV} {w:Value} (h:IE a=true) (hw:VR φ a w):VR ψ a w:=by
 cases a
 case agg l=>
  obtain⟨cs,rfl,hv⟩:=hw.dC;exact .agg (x0 hz h hv)
 all_goals exact k7 hz h hw
theorem Cl {φ ψ:Ph} (hz:∀q,φ.z q->ψ.z q):∀{l:List AV} {vs:List Value},l.all IE=true->VRs φ l vs->VRs ψ l vs
 | [],_,_,h=>by rw[h.aM];exact .nil
 |a::l,vs,hs,h=>by
  obtain⟨v,us,rfl,h1,h2⟩:=h.cons_inv;simp only[List.all_cons,Bool.and_eq_true]at hs;exact .cons (Gk hz hs.1 h1) (Cl hz hs.2 h2)
theorem oP {φ ψ:Ph} (hz:∀q,φ.z q->ψ.z q) {a:AV} {w:Value} (h:iH a=true) (hw:VR φ a w):VR ψ a w:=by
 cases a
 case tup l=>
  obtain⟨cs,rfl,hv⟩:=hw.eQ;exact .tup (Cl hz h hv)
 all_goals exact Gk hz h hw
theorem Cm {φ ψ:Ph} (hz:∀q,φ.z q->ψ.z q):∀{l:List AV} {vs:List Value},l.all iH=true->VRs φ l vs->VRs ψ l vs
 | [],_,_,h=>by rw[h.aM];exact .nil
 |a::l,vs,hs,h=>by
  obtain⟨v,us,rfl,h1,h2⟩:=h.cons_inv;simp only[List.all_cons,Bool.and_eq_true]at hs;exact .cons (oP hz hs.1 h1) (Cm hz hs.2 h2)
section
variable {r:Nat->Nat} {m:Nat}
theorem vV {a:AV} (h:nL a=true):ren r a=a/\ltV m a=true:=by cases a<;>first|exact⟨rfl,rfl⟩|cases h
theorem oQ:∀{l:List AV},l.all nL=true->du r l=l/\jv m l=true
 | [],_=>⟨rfl,rfl⟩
 |a::l,h=>by
  simp only[List.all_cons,Bool.and_eq_true]at h;exact⟨by simp only[du,(vV (r:=r) (m:=m) h.1).1,(oQ h.2).1],by simp only[jv,(vV (r:=r) (m:=m) h.1).2,(oQ h.2).2,Bool.and_self]⟩
theorem vW {a:AV} (h:IE a=true):ren r a=a/\ltV m a=true:=by
 cases a
 case agg l=>exact⟨congrArg AV.agg (oQ (r:=r) (m:=m) h).1,(oQ (r:=r) (m:=m) h).2⟩
 all_goals exact vV h
theorem oR:∀{l:List AV},l.all IE=true->du r l=l/\jv m l=true
 | [],_=>⟨rfl,rfl⟩
 |a::l,h=>by
  simp only[List.all_cons,Bool.and_eq_true]at h;exact⟨by simp only[du,(vW (r:=r) (m:=m) h.1).1,(oR h.2).1],by simp only[jv,(vW (r:=r) (m:=m) h.1).2,(oR h.2).2,Bool.and_self]⟩
theorem kH {a:AV} (h:iH a=true):ren r a=a/\ltV m a=true:=by
 cases a
 case tup l=>exact⟨congrArg AV.tup (oR (r:=r) (m:=m) h).1,(oR (r:=r) (m:=m) h).2⟩
 all_goals exact vW h
theorem oS:∀{l:List AV},l.all iH=true->du r l=l
 | [],_=>rfl
 |a::l,h=>by
  simp only[List.all_cons,Bool.and_eq_true]at h;simp only[du,(kH (r:=r) (m:=0) h.1).1,oS h.2]
end
def Re (H:AH) (n:Nat) (u:AV) (H2:AH) (v:AV):Prop:=∀(φ:Ph) (h0 h:Hp) (w:Value),HR φ H n h0 h->VR φ u w->∃ψ,PLe φ ψ/\HR ψ H2 n h0 h/\VR ψ v w
def Res (H:AH) (n:Nat) (us:List AV) (H2:AH) (vs:List AV):Prop:=∀(φ:Ph) (h0 h:Hp) (ws:List Value),HR φ H n h0 h->VRs φ us ws->∃ψ,PLe φ ψ/\HR ψ H2 n h0 h/\VRs ψ vs ws
section
variable {H H1 H2:AH} {n:Nat} {u v:AV} {us vs:List AV}
theorem Re.same:Re H n u H u:=fun φ _ _ _ hr hv=>⟨φ,.refl φ,hr,hv⟩
theorem Re.of (h:∀φ w,VR φ u w->VR φ v w):Re H n u H v:=fun φ _ _ w hr hv=>⟨φ,.refl φ,hr,h φ w hv⟩
theorem Ut {φ:Ph} {a:AV} {w:Value} (h:VR φ (mk a) w):VR φ a w:=by cases a<;>exact h
theorem L0 {φ:Ph}:∀{l:List AV} {ws:List Value},VRs φ (l.map mk) ws->VRs φ l ws
 | [],_,h=>h
 |a::l,ws,h=>by
  obtain⟨w,us,rfl,h1,h2⟩:=h.cons_inv;exact .cons (Ut h1) (L0 h2)
theorem Gl {φ:Ph} {a:AV} {w:Value} (h:VR φ (mkT a) w):VR φ a w:=by
 cases a
 case tup l=>obtain⟨cs,rfl,h1⟩:=h.eQ;exact .tup (L0 h1)
 all_goals exact Ut h
theorem Re.told (e:mkT u=mkT v):Re H n u H v:=Re.of fun _ _ h=>Gl (e▸h.mkT)
theorem Re.agg {l l':List AV} (e:l.map mk=l'.map mk):Re H n (.agg l) H (.agg l'):=Re.of fun _ _ h=>by
 obtain⟨cs,rfl,h1⟩:=h.dC;exact .agg (L0 (e▸h1.mk))
theorem Re.nsl {k:Nat}:Re H n .nsl H (.fr 0 k []):=Re.of fun φ w h=>by rw[h.cP];exact .fre fun _=>rfl
theorem Re.row {b m k x:Nat} {l s:List AV} {z:Bool} (hb:H.get b=some (.cells l z)) (hs:s.all flat.flat1=true) (hsl:s.length=m*k) (hmk:l.map mk=s.map mk) (hx:x≠4:=by decide):Re H n (.rw b 0 m k x) (H.set none aa b) (.fr m k s):=fun φ h0 h w hr hv=>by
 have hst:s.all nL=true:=by
  rw[List.all_eq_true]at hs⊢;intro y hy;have:=hs y hy;cases y<;>first|rfl|cases this
 refine hr.VS hb hv hx hst hsl (fun i a' hi=>?_) (by have:=congrArg List.length hmk;simp only[List.length_map]at this;omega);have e:=congrArg (fun x:List AV=>x[i]?) hmk;simp only[List.getElem?_map,hi,Option.map_some]at e;rw[Option.map_eq_some_iff]at e;obtain⟨a,h1,h2⟩:=e;refine⟨a,h1,fun w hw=>?_⟩;have h3:VR φ (mk a') w:=h2▸hw.mk;exact ba (List.all_eq_true.1 hs a' (List.mem_of_getElem? hi)) (by cases a'<;>first|exact h3|exact h3)
theorem Res.nil:Res H n [] H []:=fun φ _ _ _ hr hv=>⟨φ,.refl φ,hr,hv⟩
theorem Res.cons (h:Re H n u H1 v) (k:Res H1 n us H2 vs):Res H n (u::us) H2 (v::vs):=fun φ h0 hp ws hr hv=>by
 obtain⟨w,ws',rfl,e1,e2⟩:=hv.cons_inv;obtain⟨ψ,a1,a2,a3⟩:=h φ h0 hp w hr e1;obtain⟨χ,b1,b2,b3⟩:=k ψ h0 hp ws' a2 (VRs.mono a1 _ _ e2);exact⟨χ,a1.trans b1,b2,.cons (VR.mono b1 _ _ a3) b3⟩
end
theorem Re.sl {H:AH} {n b m k:Nat} {l s:List AV} {z:Bool} (hb:H.get b=some (.cells l z)) (hs:s.all flat.flat1=true) (hsl:s.length=m*k) (hmk:l.map mk=s.map mk):Re H n (.sl b 0 m m 0) (H.set none aa b) (.fr m k s):=fun φ h0 h w hr hv=>by
 refine Re.row (x:=0) hb hs hsl hmk (by decide) φ h0 h w hr ?_;obtain⟨p,C,hp,rfl,h1,_⟩:=hv.eo;have hC:=h1 rfl
 subst hC;obtain⟨ob,_,_,c,t,fz,_,g1,_⟩:=hr.of hb hp;have:l.length=C*k:=by have:=congrArg List.length hmk;simp only[List.length_map]at this;omega
 exact .rw hp (fun _=>rfl) (Nat.le_add_right _ _) (Nat.le_refl _) (by omega)
def aZ (R:List AV->AV->Prop) (args:List AV) (H:AH) (n:Nat) (κ:PK):Prop:=∃cs v H2,Res H n args H2 cs/\R cs v/\κ v H2 n
def tu (R:List AV->AV->Prop) (args:List AV) (H:AH) (n:Nat) (κ:PK):Prop:=∃cs v,Res H n args H cs/\R cs v/\κ v H n
theorem vX (R:List AV->AV->Prop):iC (tu R):= .pure fun _ _ _ _ ⟨cs,v,h0,h1,h2⟩=>⟨v,h2,fun _ h=>⟨cs,v,h0,h1,h⟩⟩
theorem ai.cs {f:FuncId} {R:List AV->AV->Prop} (h:ai f (aZ R)):ai f (tu R):=fun args H n κ ⟨cs,v,a,b,c⟩=>h args H n κ ⟨cs,v,H,a,b,c⟩
def cF (v:AV):PK:=fun u H' n'=>∃H2,Re H' n' u H2 v
theorem cF.told {u v:AV} {H:AH} {n:Nat} (e:mkT u=mkT v):cF v u H n:=⟨H,.told e⟩
theorem cF.row {m k j b x:Nat} {l s:List AV} {z:Bool} {u:AV} {H':AH} {n':Nat} (h1:u= .rw b 0 j k x) (hj:j=m) (hb:H'.get b=some (.cells l z)) (hl:l.map mk=s.map mk) (hs:s.length=m*k) (hf:s.all flat.flat1=true) (hx:x≠4:=by decide):cF (.fr m k s) u H' n':=by
 subst h1 hj;exact⟨_,.row hb hf hs hl hx⟩
theorem cF.same {u:AV} {H:AH} {n:Nat}:cF u u H n:=⟨H,.same⟩
theorem fH {f:FuncId} {run:List AV->AH->Nat->PK->Prop} (hrun:ai f run) (hic:bW Tryz.prog f=true) {R:List AV->AV->Prop} (h:∀cs v,R cs v->cs.all iH=true/\iH v=true/\run cs .nil 0 (cF v)):ai f (aZ R):=fun args H n κ ⟨cs,v,H2,hres,hR,hκ⟩ φ h0 hp vs K hr hargs hk=>by
 obtain⟨ψ,l1,hr2,ha⟩:=hres φ h0 hp _ hr hargs;obtain⟨s1,s2,s3⟩:=h cs v hR
 have key:Wf hp->dj Tryz.prog f vs hp K:=fun hw=>hrun cs .nil 0 _ s3 ⟨fun _=>none,ψ.z,ψ.z,fun _ _=>False⟩ hp hp vs K (hr2.xL (fB hw) (fun _ _ h=>by cases h) (fun _ h=>h)) (Cm (φ:=ψ) (ψ:=⟨fun _=>none,ψ.z,ψ.z,fun _ _=>False⟩) (fun _ h=>h) s1 ha) fun χ u H' n' w g hle hg hu ⟨H3,he⟩=>by
  obtain⟨χ2,l2,hg2,hu2⟩:=he χ hp g w hg hu;obtain⟨ω,h1,h2,h3⟩:=Ck hr2 hg2 (fun q hq=>hle.y q (l2.y q hq));exact hk ω v H2 n w g (l1.trans h1) h2 (oP h3 s2 hu2) hκ
 exact⟨hic,fun w hi=>(key hi.wf).2 w hi⟩
theorem pv {F:FuncId->EP} (hF:aW F) (d:Nat) {f:FuncId} (hic:bW Tryz.prog f=true) {R:List AV->AV->Prop} (h:∀cs v,R cs v->cs.all iH=true/\iH v=true/\ax F d f cs .nil 0 (cF v)):ai f (aZ R):=fH (an hF d f) hic h
theorem om:∀{O:List AO} {k:Nat} {H:AH} {x:Nat} {o:AO},k+O.length<1000000->(x<k∨k+O.length<=x)->H.get x=some o->(rf O k H).get x=some o
 | [],_,_,_,_,_,_,h=>h
 |a::O,k,H,x,o,hk,hx,h=>by
  simp only[List.length_cons]at hk hx;exact om (O:=O) (by omega) (by omega) (PM.gne (by omega) (by omega) h)
theorem zH:∀{O:List AO} {k:Nat} {H:AH} {i:Nat} {o:AO},k+O.length<1000000->O[i]?=some o->(rf O k H).get (k+i)=some o
 | [],_,_,i,_,_,h=>by simp at h
 |a::O,k,H,0,o,hk,h=>by
  simp only[List.length_cons]at hk;injection h with h;subst h;exact om (O:=O) (by omega) (.inl (by omega)) (PM.geq (by omega))
 |a::O,k,H,i+1,o,hk,h=>by
  simp only[List.length_cons]at hk;rw[show k+(i+1)=k+1+i by omega];exact zH (O:=O) (by omega) (by simpa using h)
theorem ri:∀{O:List AO} {k i:Nat} {o:AO},k+O.length<1000000->O[i]?=some o->(mkH (bH O k)).get (k+i)=some o
 | [],_,i,_,_,h=>by simp at h
 |a::O,k,0,o,hk,h=>by
  simp only[List.length_cons]at hk;injection h with h;subst h;exact PM.geq (by omega)
 |a::O,k,i+1,o,hk,h=>by
  simp only[List.length_cons]at hk;have:=ri (O:=O) (k:=k+1) (i:=i) (o:=o) (by omega) (by simpa using h);rw[show k+(i+1)=k+1+i by omega];exact PM.gne (by omega) (by omega) this
section
variable {r r':Nat->Nat} {m:Nat}
mutual
theorem oT (h:∀c,c<m->r c=r' c):∀a:AV,ltV m a=true->ren r a=ren r' a
 | .ptr b o,e=>congrArg (AV.ptr · o) (h b (Nat.le_of_ble_eq_true e))
 | .sl b o n c k,e=>congrArg (AV.sl · o n c k) (h b (Nat.le_of_ble_eq_true e))
 | .esl b,e=>congrArg AV.esl (h b (Nat.le_of_ble_eq_true e))
 | .map b,e=>congrArg AV.map (h b (Nat.le_of_ble_eq_true e))
 | .sy b o n c k,e=>congrArg (AV.sy · o n c k) (h b (Nat.le_of_ble_eq_true e))
 | .rw b o n k x,e=>congrArg (AV.rw · o n k x) (h b (Nat.le_of_ble_eq_true e))
 | .agg l,e=>congrArg AV.agg (gQ h l e)
 | .tup l,e=>congrArg AV.tup (gQ h l e)
 | .fn f a c,e=>by
  simp only[ltV,Bool.and_eq_true]at e;simp only[ren,gQ h a e.1,gQ h c e.2]
 | .int _ _,_| .str _,_| .bool _,_| .nil,_| .nsl,_| .any _,_| .bad,_| .si _ _,_| .sb _,_| .ss _,_| .fr _ _ _,_| .fa _ _,_=>rfl
theorem gQ (h:∀c,c<m->r c=r' c):∀l:List AV,jv m l=true->du r l=du r' l
 | [],_=>rfl
 |a::l,e=>by
  simp only[jv,Bool.and_eq_true]at e;simp only[du,oT h a e.1,gQ h l e.2]
end
theorem p9 (h:∀c,c<m->r c=r' c):∀l:List (AV×AV),ltE m l=true->wS r l=wS r' l
 | [],_=>rfl
 |a::l,e=>by
  simp only[ltE,Bool.and_eq_true]at e;simp only[wS,oT h _ e.1,oT h _ e.2.1,p9 h l e.2.2]
theorem gT (h:∀c,c<m->r c=r' c) {o:AO} (e:ltO m o=true):cx r o=cx r' o:=by
 cases o with
 |cells l z=>exact congrArg (AO.cells · z) (gQ h l e)
 |map es=>exact congrArg AO.map (p9 h es e)
 |mp es bs cl=>exact congrArg (AO.mp · bs cl) (p9 h es e)
 |ro l=>exact congrArg AO.ro (gQ h l e)
 |iter b k seen=>exact congrArg (AO.iter · k seen) (h b (Nat.le_of_ble_eq_true e))
 |sep Q=>rfl
end
def kU (n k:Nat):List Nat:=(List.range k).map fun i=>n+i
theorem c9 (n k:Nat):(kU n k).length=k:=by simp[kU]
theorem uc {n k i:Nat} (h:i<k):(kU n k)[i]?=some (n+i):=by simp[kU,h]
theorem rj {n k i s:Nat} (h:(kU n k)[i]?=some s):i<k/\s=n+i:=by
 have h1:=(List.getElem?_eq_some_iff.1 h).1;rw[c9]at h1;rw[uc h1]at h;injection h with h;exact⟨h1,h.symm⟩
theorem jz {n k x:Nat} (h:x∈kU n k):n<=x/\x<n+k:=by
 simp only[kU,List.mem_map,List.mem_range]at h;obtain⟨i,h1,rfl⟩:=h;omega
theorem qa (n k:Nat):(kU n k).Nodup:=by
 rw[kU,List.nodup_iff_pairwise_ne,List.pairwise_map];exact List.nodup_range.imp fun h e=>h (by omega)
theorem mW {n k N c:Nat} (h:c<k):bl (kU n k) N c=n+c:=cu (uc h)
def wV (H:AH) (m:Nat):List AO->Nat->Prop
 | [],_=>True
 |o::os,i=>(∃o1,H.get i=some o1/\au H m (fun b=>b) o1 o)/\wV H m os (i+1)
theorem wV.at {H:AH} {m:Nat}:∀{O:List AO} {k i:Nat} {o:AO},wV H m O k->O[i]?=some o->∃o1,H.get (k+i)=some o1/\au H m (fun b=>b) o1 o
 | [],_,i,_,_,h=>by simp at h
 |a::O,k,0,o,hc,h=>by injection h with h;subst h;exact hc.1
 |a::O,k,i+1,o,hc,h=>by
  rw[show k+(i+1)=k+1+i by omega];exact wV.at hc.2 (by simpa using h)
def VT (n0:Nat) (u:AV) (H':AH) (n':Nat) (v:AV) (H2:AH) (m:Nat):Prop:=∀(φ:Ph) (h0 h:Hp) (w:Value),HR φ H' n' h0 h->VR φ u w->∃ψ:Ph,((∀b q,b<n0->φ b=some q->ψ b=some q)/\(∀q,φ.z q->ψ.z q)/\∀q,ψ.y q->φ.y q)/\HR ψ H2 m h0 h/\VR ψ v w
def VU (run:List AV->AH->Nat->PK->Prop) (args:List AV) (H:AH) (n:Nat) (κ:PK):Prop:=∃κ0:PK,run args H n κ0/\∀u H' n',κ0 u H' n'->∃v H2 m,VT n u H' n' v H2 m/\κ v H2 m
theorem ai.m {f:FuncId} {run:List AV->AH->Nat->PK->Prop} (hg:ai f run):ai f (VU run):=fun args H n κ ⟨κ0,hs,hm⟩ φ h0 h vs K hr ha hk=>hg args H n κ0 hs φ h0 h vs K hr ha fun ψ u H' n' w g' hle hg' hu hq=>by
 obtain⟨v,H2,m,hf,hκ⟩:=hm u H' n' hq;obtain⟨χ,⟨c1,c2,c3⟩,c4,c5⟩:=hf ψ h0 g' w hg' hu;exact hk χ v H2 m w g' ⟨fun b p e=>c1 b p (hr.dom b p e).1 (hle.b b p e),fun q e=>c2 q (hle.z q e),fun q e=>hle.y q (c3 q e)⟩ c4 c5 hκ
theorem Ej {φ:Ph} {H:AH} {n k:Nat} {h0 h:Hp} {O:List AO} (hr:HR φ H n h0 h) (hc:wV H k O 0) (hl:O.length<=k):∃ψ:Ph,((∀b q,b<k->φ b=some q->ψ b=some q)/\(∀q,φ.z q->ψ.z q)/\∀q,ψ.y q->φ.y q)/\HR ψ (mkH (bH O 0)) k h0 h:=by
 obtain⟨ψ,h1,h2,_⟩:=Cov.ofR (m:=k) (p:=k) (n:=n) (σ:=PM.nil) (H:=H) (le:=[]) (lh:=bH O 0) (fun b=>b) (Nat.le_refl _) (fun _ _=>rfl) (fun x hx=>by cases hx) (fun x hx=>by
  obtain⟨b,o⟩:=x;obtain⟨i,e1,e2⟩:=vk hx;have:=(List.getElem?_eq_some_iff.1 e2).1;have h3:=hc.at e2;rw[<-e1]at h3;exact⟨(by show b<k;omega),.inl h3⟩) (fun _ _ _ _ e=>e) φ h0 h (fun _=>Go.undef) hr (fun t a e=>by cases e)
 exact⟨ψ,h1,h2⟩
theorem au.refl {H:AH} {m:Nat} {o:AO} (h:ltO m o=true):au H m (fun b=>b) o o:=⟨⟨rfl,rfl⟩,fun φ ψ _ _ hren _ ho=>OR.below (m:=m) (fun b _ hb e=>(hren.1 b hb).trans e) hren.2 h ho⟩
structure Obj (X C:Type)where
 ok:X->C->Prop
 O:C->List AO
 k:Nat
 len:∀c,(O c).length=k
 own:∀c o,o∈O c->o.own=true/\ltO k o=true
 pos:∀c,∃a l z,(O c)[0]?=some (.cells (a::l) z)
def Obj.Q {X C:Type} (B:Obj X C) (x:X) (p:Nat×Nat):HP:=HP.exi (B.ok x) fun c=>vR (B.O c) p
noncomputable def ie (H:AH):Nat->Nat->Bool
 |0,_=>true
 |k+1,n=>(match H.get n with
  |none=>ie H k (n+1)
  |some _=>false)
theorem mX {H:AH}:∀{k n:Nat},ie H k n=true->∀{x:Nat} {o:AO},n<=x->x<n+k->H.get x=some o->False
 |0,n,_,x,o,h1,h2,_=>by omega
 |k+1,n,h,x,o,h1,h2,h3=>by
  unfold ie at h;split at h
  ·rename_i e;by_cases q:x=n
   ·subst q;rw[e]at h3;cases h3
   ·exact mX h (by omega) (by omega) h3
  ·cases h
def dS {X C:Type} (k:Nat) (B:Obj X C) (R:X->List AV->X->AV->Prop) (args:List AV) (H:AH) (n:Nat) (κ:PK):Prop:=match args with
 |a::ar=>∃b p x cs x' v H1,a=aQ p/\b<n/\n<800000/\Res H n ar H1 cs/\H1.get b=some (.sep (B.Q x p))/\ie H1 k n=true/\R x cs x' v/\κ v (H1.set (some (.sep (B.Q x' p))) aa b) (n+k)
 |_=>False
def gj {X C:Type} (B:Obj X C) (x':X) (v:AV):PK:=fun u H' n'=>∃H2 c',Re H' n' u H2 v/\B.ok x' c'/\wV H2 B.k (B.O c') 0
section
variable {X C:Type} {B:Obj X C} {x:X} {p:Nat×Nat} {H:AH} {n b:Nat} {c:C}
theorem Obj.lt (B:Obj X C) (c:C) {i:Nat} {o:AO} (h:(B.O c)[i]?=some o):i<B.k/\o.own=true/\ltO B.k o=true:=
 ⟨by rw[<-B.len c];exact(List.getElem?_eq_some_iff.1 h).1,B.own c o (List.mem_of_getElem? h)⟩
noncomputable def opO (B:Obj X C) (H:AH) (n b:Nat) (c:C):AH:=rf ((B.O c).map (cx fun j=>n+j)) n (H.set (some (.sep .emp)) aa b)
theorem ue (B:Obj X C) (c:C) {n:Nat}:((B.O c).map (cx fun j=>n+j)).length=B.k:=by rw[List.length_map,B.len]
theorem Ek (hn:n+B.k<1000000) {i:Nat} {o:AO} (h:(B.O c)[i]?=some o):(opO B H n b c).get (n+i)=some (cx (fun j=>n+j) o):=zH (by rw[ue];exact hn) (by rw[List.getElem?_map,h];rfl)
theorem L1 (hn:n+B.k<1000000) (hbn:b<n) {y:Nat} {o:AO} (hy:y<n∨n+B.k<=y) (hyb:y≠b) (h:H.get y=some o):(opO B H n b c).get y=some o:=om (by rw[ue];exact hn) (by rw[ue];exact hy) (PM.gne (by omega) hyb h)
theorem L2 (hn:n+B.k<1000000) (hbn:b<n):(opO B H n b c).get b=some (.sep .emp):=om (by rw[ue];exact hn) (.inl hbn) (PM.geq (by omega))
theorem Gm {y:Nat} {o:AO} (h:(opO B H n b c).get y=some o):(∃i o',y=n+i/\(B.O c)[i]?=some o'/\o=cx (fun j=>n+j) o')∨(y=b/\o= .sep .emp)∨(y≠b/\(y<n∨n+B.k<=y)/\H.get y=some o):=by
 rcases p8 y o h with h|h|⟨h1,h2,h3⟩
 ·exact .inl h
 ·exact .inr (.inl h)
 ·rw[B.len]at h2;exact .inr (.inr ⟨h1,h2,h3⟩)
theorem x4 (hn:n+B.k<1000000):xY (opO B H n b c) (kU n B.k) (B.O c):=⟨qa _ _,by rw[c9,B.len],fun i s o h1 h2=>by
 obtain⟨h3,rfl⟩:=rj h1;obtain⟨_,h4,h5⟩:=B.lt c h2;refine⟨?_,h4,by rw[B.len];exact h5⟩;rw[Ek hn h2];exact congrArg some (gT (m:=B.k) (fun j hj=>(mW hj).symm) h5)⟩
theorem IF (hn:n+B.k<1000000):iL (opO B H n b c) (n+B.k) (kU n B.k) (B.O c):=⟨qa _ _,by rw[c9,B.len],fun i s o h1 h2=>by
 obtain⟨h3,rfl⟩:=rj h1;obtain⟨_,h4,h5⟩:=B.lt c h2;refine⟨by omega,?_,.inr h4⟩;rw[Ek hn h2];exact congrArg some (gT (m:=B.k) (fun j hj=>(mW hj).symm) h5)⟩
theorem Obj.k0 (B:Obj X C) (c:C):0<B.k:=by
 obtain⟨a,l,z,h⟩:=B.pos c;exact(B.lt c h).1
end
def Sq {X C:Type} (B:Obj X C) (k:Nat) (x':X) (P:AV->List AO->Prop):PK:=fun u H' n'=>∃v E c',P v E/\B.ok x' c'/\ltV (k+E.length) v=true/\(∀o∈E,o.own=true/\ltO (k+E.length) o=true)/\E.length<1000/\Cov k (mkE [(0,u)]) H' n' (mkE [(0,v)],mkH (bH (B.O c'++E) 0),k+E.length)
noncomputable def IG (n k:Nat) (E:List AO) (H:AH):AH:=rf (E.map (cx fun j=>n+j)) (n+k) H
def L3 {X C:Type} (k:Nat) (B:Obj X C) (R:X->List AV->X->(AV->List AO->Prop)->Prop) (args:List AV) (H:AH) (n:Nat) (κ:PK):Prop:=match args with
 |a::ar=>∃b p x cs x' P H1,a=aQ p/\b<n/\n<800000/\Res H n ar H1 cs/\H1.get b=some (.sep (B.Q x p))/\ie H1 k n=true/\R x cs x' P/\∀v E,P v E->κ (ren (fun j=>n+j) v) (IG n k E (H1.set (some (.sep (B.Q x' p))) aa b)) (n+k+E.length)
 |_=>False
theorem El {n k m c:Nat} (h:c<m):bl (kU n k) (n+k) c=n+c:=by
 by_cases q:c<k
 ·exact mW q
 ·rw[fX (by rw[c9];omega),c9];omega
def Uu (run:List AV->AH->Nat->PK->Prop) (args:List AV) (H:AH) (n:Nat) (κ:PK):Prop:=∃κ0:PK,run args H n κ0/\∀u H' n',κ0 u H' n'->κ u H' n'
theorem ai.w {f:FuncId} {run:List AV->AH->Nat->PK->Prop} (hg:ai f run):ai f (Uu run):=fun args H n κ ⟨κ0,hs,hm⟩ φ h0 h vs K hr ha hk=>hg args H n κ0 hs φ h0 h vs K hr ha fun ψ u H' n' w g' hle hg' hu hq=>hk ψ u H' n' w g' hle hg' hu (hm u H' n' hq)
section
variable {m m':Nat}
mutual
theorem Em (h:m<=m'):∀a:AV,ltV m a=true->ltV m' a=true
 | .ptr b o,e| .sl b o n c k,e| .esl b,e| .map b,e| .sy b o n c k,e| .rw b o n k x,e=>Nat.ble_eq_true_of_le (Nat.le_trans (Nat.le_of_ble_eq_true e) h)
 | .agg l,e| .tup l,e=>sr h l e
 | .fn f a c,e=>by
  simp only[ltV,Bool.and_eq_true]at e⊢;exact⟨sr h a e.1,sr h c e.2⟩
 | .int _ _,_| .str _,_| .bool _,_| .nil,_| .nsl,_| .any _,_| .bad,_| .si _ _,_| .sb _,_| .ss _,_| .fr _ _ _,_| .fa _ _,_=>rfl
theorem sr (h:m<=m'):∀l:List AV,jv m l=true->jv m' l=true
 | [],_=>rfl
 |a::l,e=>by
  simp only[jv,Bool.and_eq_true]at e⊢;exact⟨Em h a e.1,sr h l e.2⟩
end
theorem En (h:m<=m'):∀l:List (AV×AV),ltE m l=true->ltE m' l=true
 | [],_=>rfl
 |a::l,e=>by
  simp only[ltE,Bool.and_eq_true]at e⊢;exact⟨Em h _ e.1,Em h _ e.2.1,En h l e.2.2⟩
theorem Ss (h:m<=m') {o:AO} (e:ltO m o=true):ltO m' o=true:=by
 cases o with
 |cells l z=>exact sr h l e
 |map es=>exact En h es e
 |mp es bs cl=>exact En h es e
 |ro l=>exact sr h l e
 |iter b k seen=>exact Nat.ble_eq_true_of_le (Nat.le_trans (Nat.le_of_ble_eq_true e) h)
 |sep Q=>rfl
end
theorem L4 {X C:Type} {f:FuncId} {run:List AV->AH->Nat->PK->Prop} (hrun:ai f run) (hic:bW Tryz.prog f=true) (B:Obj X C) {k:Nat} (hk:B.k=k) (hk9:k<1000) {R:X->List AV->X->(AV->List AO->Prop)->Prop}
 (h:∀x cs x' P,R x cs x' P->cs.all iH=true/\∀c,B.ok x c->run (.ptr 0 0::cs) (mkH (bH (B.O c) 0)) k (Sq B k x' P)):ai f (L3 k B R):=fun args H n κ hs φ h0 hp vs K hr hargs hk2=>by
 unfold L3 at hs;split at hs
 ·rename_i a ar;obtain⟨b,p,x,cs,x',P,H1,rfl,hbn,hn9,hres,hb,hroom,hR,hκ⟩:=hs;obtain⟨w1,us1,q1,e1,r1⟩:=hargs.cons_inv;have e1:w1=pS p:=e1;subst e1 hk;obtain⟨φ1,l1,hr1,ha1⟩:=hres φ h0 hp us1 hr r1;obtain⟨c,hc,hP⟩:=(hr1.sep b _ hb).1;obtain⟨ψ,T,l2,hψ,hr2⟩:=hr1.Eg (O:=B.O c) hbn hb hP p8;obtain⟨s1,s3⟩:=h x cs x' P hR;have hrun2:=s3 c hc;rw[B.len]at hr2;have hn:n+B.k<1000000:=by omega
  have hr2:HR ψ (opO B H1 n b c) (n+B.k) h0 hp:=hr2;have olen:∀(c':C) (E:List AO),(B.O c'++E).length=B.k+E.length:=fun c' E=>by rw[List.length_append,B.len]
  have xlen:∀E:List AO,(E.map (cx fun j=>n+j)).length=E.length:=fun E=>List.length_map _
  refine dy (S:=kU n B.k) (O:=B.O c) (args0:= .ptr 0 0::cs) (κ:=fun v2 H2 n2=>∃v E c',P v E/\B.ok x' c'/\(∀o∈E,o.own=true)/\E.length<1000/\v2=ren (fun j=>n+j) v/\n2=n+B.k+E.length/\H2=IG n B.k E (opO B H1 n b c')) hrun.m hic hr2 (IF hn) ?_ ?_ (Q:=fun v' H' m=>∃E c',P v' E/\B.ok x' c'/\ltV (B.k+E.length) v'=true/\(∀o∈E,o.own=true/\ltO (B.k+E.length) o=true)/\E.length<1000/\m=B.k+E.length/\H'=mkH (bH (B.O c'++E) 0)) ?_ fun u H' n' hq=>?_
  ·rw[q1];refine .cons ?_ ?_
   ·show VR ψ (.ptr (bl (kU n B.k) (n+B.k) 0) 0) (pS p);rw[mW (B.k0 c),Nat.add_zero];exact VR.nZ hψ
   ·rw[oS s1];exact VRs.mono l2 _ _ ha1
  ·intro χ v2 H2 n2 u g hle hg hu ⟨v,E,c',f0,f1,f5,f6,f2,f3,f4⟩;subst f2 f3 f4;have past:∀{y o},(y<n+B.k∨n+B.k+E.length<=y)->(opO B H1 n b c').get y=some o->(IG n B.k E (opO B H1 n b c')).get y=some o:=fun hy ho=>om (by rw[xlen];omega) (by rw[xlen];exact hy) ho
   have sl:xY (IG n B.k E (opO B H1 n b c')) (kU n B.k) (B.O c'):=by
    obtain⟨a1,a2,a3⟩:=x4 (B:=B) (H:=H1) (b:=b) (c:=c') hn
    exact⟨a1,a2,fun i s o h1 h2=>by
     obtain⟨b1,b2⟩:=a3 i s o h1 h2;exact⟨past (.inl (by have:=rj h1;omega)) b1,b2⟩⟩
   obtain⟨ω,_,l3,_,hr3⟩:=hg.Iy (O:=B.O c') (S:=kU n B.k) (b:=b) (p:=p) (Q:=B.Q x' p) (H':=IG n B.k E (H1.set (some (.sep (B.Q x' p))) aa b)) sl (past (.inl (by omega)) (L2 hn hbn)) (fun q=>by have:=jz q;omega) (s0:=n) (by rw[uc (B.k0 c),Nat.add_zero]) (hle.b _ _ hψ) (fun y o hy=>by
    rcases mc hy with⟨i,rfl,j2⟩|⟨j0,j2⟩
    ·have:i<E.length:=by have:=(List.getElem?_eq_some_iff.1 j2).1;rwa [xlen]at this
     exact .inr ⟨by omega,fun q=>by have:=jz q;omega,zH (by rw[xlen];omega) j2⟩
    rw[xlen]at j0;rcases PM.aj aa _ b y o j2 with⟨j1,j2⟩|⟨j1,j2⟩
    ·injection j2 with j2;exact .inl ⟨j1,j2.symm⟩
    ·have:y<n∨n+B.k<=y:=by
      rcases Nat.lt_or_ge y n with q|q
      ·exact .inl q
      ·exact .inr (Nat.le_of_not_lt fun q2=>mX hroom q q2 j2)
     exact .inr ⟨j1,fun q=>by have:=jz q;omega,past j0 (L1 hn hbn this j1 j2)⟩) fun z X h hh=>⟨c',f1,hh⟩
   exact hk2 ω _ _ _ u g (((l1.trans l2).trans hle).trans l3) hr3 (VR.mono l3 _ _ hu) (hκ v E f0)
  ·refine⟨Sq B B.k x' P,by rw[c9];exact hrun2,fun u H' n' ⟨v,E,c',g1,g2,g3,g4,g5,g6⟩=>⟨v,mkH (bH (B.O c'++E) 0),B.k+E.length,fun χ h0 hp w hr hu=>?_,E,c',g1,g2,g3,g4,g5,rfl,rfl⟩⟩
   obtain⟨ψ2,m2,hr4,hf4⟩:=g6 χ h0 hp (fun _=>w) hr (fun t a ht=>by
    have:=mO ht;simp only[List.mem_cons,List.not_mem_nil,or_false]at this;injection this with e1 e2;subst e1 e2;exact hu)
   rw[c9];exact⟨ψ2,m2,hr4,hf4 0 v rfl⟩
  ·obtain⟨E,c',g1,g2,g3,g4,g5,g6,g7⟩:=hq;subst g6 g7;refine⟨B.k+E.length,IG n B.k E (opO B H1 n b c'),by rw[c9];exact Nat.le_add_right _ _,fun y o hy=>?_,g3,u,E,c',g1,g2,fun o ho=>(g4 o ho).1,g5,oT (m:=B.k+E.length) (fun j hj=>El hj) _ g3,by rw[c9];omega,rfl⟩;rcases mc hy with⟨i,rfl,j2⟩|⟨j0,hy⟩
   ·have hi:i<E.length:=by have:=(List.getElem?_eq_some_iff.1 j2).1;rwa [xlen]at this
    rw[List.getElem?_map,Option.map_eq_some_iff]at j2;obtain⟨o',j3,rfl⟩:=j2;have:=g4 o' (List.mem_of_getElem? j3);refine .inl ⟨B.k+i,o',by omega,by rw[El (m:=B.k+E.length) (by omega)];omega,?_,this.1,this.2,gT (m:=B.k+E.length) (fun j hj=>(El hj).symm) this.2⟩;have h2:=ri (O:=B.O c'++E) (k:=0) (i:=B.k+i) (o:=o') (by rw[olen];omega) (by rw[List.getElem?_append_right (by rw[B.len];omega),B.len,Nat.add_sub_cancel_left];exact j3);rwa [Nat.zero_add]at h2
   rw[xlen]at j0;rcases Gm hy with⟨i,o',rfl,i1,rfl⟩|⟨rfl,rfl⟩|⟨i1,i2,i3⟩
   ·obtain⟨j1,j2,j3⟩:=B.lt c' i1;have lt2:ltO (B.k+E.length) o'=true:=Ss (Nat.le_add_right _ _) j3;refine .inl ⟨i,o',by omega,(mW j1).symm,?_,j2,lt2,gT (m:=B.k) (fun j hj=>(mW hj).symm) j3⟩;have h2:=ri (O:=B.O c'++E) (k:=0) (i:=i) (o:=o') (by rw[olen];omega) (by rw[List.getElem?_append_left (by rw[B.len];exact j1)];exact i1);rwa [Nat.zero_add]at h2
   ·exact .inr ⟨.inl (by omega),L2 hn hbn,fun q=>by have:=jz q;omega⟩
   ·exact .inr ⟨by rw[c9];omega,L1 hn hbn i2 i1 i3,fun q=>by have:=jz q;omega⟩
 ·exact hs.elim
theorem Uv {X C:Type} {f:FuncId} {run:List AV->AH->Nat->PK->Prop} (hrun:ai f run) (hic:bW Tryz.prog f=true) (B:Obj X C) {k:Nat} (hk:B.k=k) (hk9:k<1000) {R:X->List AV->X->AV->Prop}
 (h:∀x cs x' v,R x cs x' v->cs.all iH=true/\iH v=true/\∀c,B.ok x c->run (.ptr 0 0::cs) (mkH (bH (B.O c) 0)) k (gj B x' v)):ai f (dS k B R):=fun args H n κ hs φ h0 hp vs K hr hargs hk2=>by
 unfold dS at hs;split at hs
 ·rename_i a ar;obtain⟨b,p,x,cs,x',v,H1,rfl,hbn,hn9,hres,hb,hroom,hR,hκ⟩:=hs;have s2:=(h x cs x' v hR).2.1;refine L4 (R:=fun x cs x' P=>∃v,P=(fun u E=>E=[]/\u=v)/\R x cs x' v) (run:=Uu run) hrun.w hic B hk hk9 (fun x cs x' P ⟨v,hP,hR⟩=>?_) (aQ p::ar) H n κ ⟨b,p,x,cs,x',fun u E=>E=[]/\u=v,H1,rfl,hbn,hn9,hres,hb,hroom,⟨v,rfl,hR⟩,fun u E ⟨e1,e2⟩=>?_⟩ φ h0 hp vs K hr hargs hk2
  ·obtain⟨s1,s2,s3⟩:=h x cs x' v hR;subst hP hk;refine⟨s1,fun c hc=>⟨gj B x' v,s3 c hc,fun u H' n' ⟨H2,c',g1,g2,g3⟩=>⟨v,[],c',⟨rfl,rfl⟩,g2,(kH (r:=fun b=>b) s2).2,fun o ho=>(by cases ho),by decide,?_⟩⟩⟩;rw[List.append_nil];intro χ h0 hp ρ hr hf;obtain⟨ψ1,m1,hr3,hu3⟩:=g1 χ h0 hp (ρ 0) hr (hf 0 u rfl);obtain⟨ψ2,m2,hr4⟩:=Ej hr3 g3 (by rw[B.len];exact Nat.le_refl _);refine⟨ψ2,⟨fun y q hy e=>m2.1 y q hy (m1.b y q e),fun q e=>m2.2.1 q (m1.z q e),fun q e=>m1.y q (m2.2.2 q e)⟩,hr4,fun t a ht=>?_⟩;have:=mO ht;simp only[List.mem_cons,List.not_mem_nil,or_false]at this;injection this with e1 e2;subst e1 e2;exact oP m2.2.1 s2 hu3
  ·subst e1 e2;rw[(kH (m:=0) s2).1];exact hκ
 ·exact hs.elim
theorem gx {X C:Type} {F:FuncId->EP} (hF:aW F) (d:Nat) {f:FuncId} (hic:bW Tryz.prog f=true) (B:Obj X C) {k:Nat} (hk:B.k=k) (hk9:k<1000) {R:X->List AV->X->AV->Prop}
 (h:∀x cs x' v,R x cs x' v->cs.all iH=true/\iH v=true/\∀c,B.ok x c->ax F d f (.ptr 0 0::cs) (mkH (bH (B.O c) 0)) k (gj B x' v)):ai f (dS k B R):=Uv (an hF d f) hic B hk hk9 h
def dI {X C:Type} (k:Nat) (B:Obj X C) (R:X->List AV->AV->Prop) (args:List AV) (H:AH) (n:Nat) (κ:PK):Prop:=match args with
 |a::ar=>∃b p x cs v,a=aQ p/\b<n/\n<800000/\Res H n ar H cs/\H.get b=some (.sep (B.Q x p))/\ie H k n=true/\R x cs v/\κ v H (n+k)
 |_=>False
theorem Eo {X C:Type} (k:Nat) (B:Obj X C) (R:X->List AV->AV->Prop):iC (dI k B R):=fun args H n κ hs=>by
 unfold dI at*;split at hs
 ·obtain⟨b,p,x,cs,v,h1,h2,h3,h4,h5,h6,h7,h8⟩:=hs;exact⟨v,H,n+k,h8,fun _ _ h=>h,Nat.le_add_right _ _,fun κ' h=>⟨b,p,x,cs,v,h1,h2,h3,h4,h5,h6,h7,h⟩⟩
 ·exact hs.elim
theorem ai.ol {X C:Type} {f:FuncId} {k:Nat} {B:Obj X C} {R:X->List AV->AV->Prop} (h:ai f (dS k B fun x cs x' v=>x'=x/\R x cs v)):ai f (dI k B R):=fun args H n κ hs φ h0 hp vs K hr hargs hk=>by
 unfold dI at hs;split at hs
 ·rename_i a ar;obtain⟨b,p,x,cs,v,h1,h2,h3,h4,h5,h6,h7,h8⟩:=hs;refine h (a::ar) H n (fun v2 H2 n2=>v2=v/\H2=H.set (some (.sep (B.Q x p))) aa b/\n2=n+k) ⟨b,p,x,cs,x,v,H,h1,h2,h3,h4,h5,h6,⟨rfl,h7⟩,rfl,rfl,rfl⟩ φ h0 hp vs K hr hargs fun ψ v2 H2 n2 u g hle hg hu ⟨e1,e2,e3⟩=>?_
  subst e1 e2 e3;refine hk ψ v2 H _ u g hle (hg.less fun y o hy=>?_) hu h8;by_cases q:y=b
  ·subst q;rw[h5]at hy;injection hy with hy;subst hy;exact PM.geq (by omega)
  ·exact PM.gne (by omega) q hy
 ·exact hs.elim
def Uw {Y E:Type} (D:Obj Y E) (k:Nat) (y:Y):PK:=fun u H' n'=>∃e,D.ok y e/\Cov 0 (mkE [(0,u)]) H' n' (mkE [(0,.ptr 0 0)],mkH (bH (D.O e) 0),k)
def vY {Y E:Type} (k:Nat) (D:Obj Y E) (R:List AV->Y->Prop) (args:List AV) (H:AH) (n:Nat) (κ:PK):Prop:=∃cs y H1,n<800000/\Res H n args H1 cs/\ie H1 (k+1) n=true/\R cs y/\∀p,κ (aQ p) (H1.set (some (.sep (D.Q y p))) aa n) (n+1+k)
theorem L5 {Y E:Type} {f:FuncId} {run:List AV->AH->Nat->PK->Prop} (hrun:ai f run) (hic:bW Tryz.prog f=true) (D:Obj Y E) {k:Nat} (hk:D.k=k) (hk9:k<1000) {R:List AV->Y->Prop}
 (h:∀cs y,R cs y->cs.all iH=true/\run cs .nil 0 (Uw D k y)):ai f (vY k D R):=fun args H n κ ⟨cs,y,H1,hn9,hres,hroom,hR,hκ⟩ φ h0 hp vs K hr hargs hk2=>by
 subst hk;obtain⟨φ1,l1,hr1,ha1⟩:=hres φ h0 hp _ hr hargs;obtain⟨ψ,l2,hr2⟩:=hr1.hole;obtain⟨s1,s3⟩:=h cs y hR;have hn:n+1+D.k<1000000:=by omega
 refine dy (S:=[]) (O:=[]) (args0:=cs) (κ:=fun v2 H2 n2=>v2= .ptr (n+1) 0/\n2=n+1+D.k/\∃e,D.ok y e/\H2=opO D H1 (n+1) n e) hrun.m hic hr2 ⟨List.nodup_nil,rfl,fun i s o h1 _=>by simp at h1⟩ (by rw[oS s1];exact VRs.mono l2 _ _ ha1) ?_ (Q:=fun v' H' m=>v'= .ptr 0 0/\m=D.k/\∃e,D.ok y e/\H'=mkH (bH (D.O e) 0)) ?_ fun u H' n' hq=>?_
 ·intro χ v2 H2 n2 u g hle hg hu ⟨f1,f2,e,f3,f4⟩;subst f1 f2 f4;obtain⟨a,l,z,hpos⟩:=D.pos e;rcases hg.live _ _ (Ek hn hpos)with⟨_,k2⟩|⟨q,ob,k2,_⟩
  ·cases k2
  rw[Nat.add_zero]at k2;have eq:q=⟨(q.B,q.s).1,(q.B,q.s).2,q.T⟩:=rfl
  rw[eq]at k2
  obtain⟨ω,_,l3,_,hr3⟩:=hg.Iy (O:=D.O e) (S:=kU (n+1) D.k) (b:=n) (p:=(q.B,q.s)) (Q:=D.Q y (q.B,q.s)) (H':=H1.set (some (.sep (D.Q y (q.B,q.s)))) aa n) (x4 hn) (L2 hn (by omega)) (fun q=>by have:=jz q;omega) (s0:=n+1) (by rw[uc (D.k0 e),Nat.add_zero]) k2 (fun x o hx=>by
   rcases PM.aj aa _ n x o hx with⟨j1,j2⟩|⟨j1,j2⟩
   ·injection j2 with j2;exact .inl ⟨j1,j2.symm⟩
   ·have:x<n+1∨n+1+D.k<=x:=by
     rcases Nat.lt_or_ge x n with q|q
     ·exact .inl (by omega)
     ·exact .inr (Nat.le_of_not_lt fun q2=>mX hroom q (by omega) j2)
    exact .inr ⟨j1,fun q=>by have:=jz q;omega,L1 hn (by omega) this j1 j2⟩) fun z X h hh=>⟨e,f3,hh⟩
  refine hk2 ω (aQ (q.B,q.s)) _ _ u g (((l1.trans l2).trans hle).trans l3) hr3 ?_ (hκ (q.B,q.s));obtain⟨pl,f1,f2⟩:=hu.ct;rw[k2]at f1;injection f1 with f1;subst f2 f1;exact rfl
 ·refine⟨Uw D D.k y,s3,fun u H' n' ⟨e,g1,g2⟩=>⟨.ptr 0 0,mkH (bH (D.O e) 0),D.k,fun χ h0 hp w hr hu=>?_,rfl,rfl,e,g1,rfl⟩⟩
  obtain⟨ψ2,m2,hr4,hf4⟩:=g2 χ h0 hp (fun _=>w) hr (fun t a ht=>by
   have:=mO ht;simp only[List.mem_cons,List.not_mem_nil,or_false]at this;injection this with e1 e2;subst e1 e2;exact hu)
  exact⟨ψ2,m2,hr4,hf4 0 _ rfl⟩
 ·obtain⟨g1,g2,e,g3,g4⟩:=hq;subst g1 g2 g4;refine⟨D.k,opO D H1 (n+1) n e,Nat.zero_le _,fun x o hx=>?_,Nat.ble_eq_true_of_le (D.k0 e),?_,by simp,e,g3,rfl⟩
  ·rcases Gm hx with⟨i,o',rfl,i1,rfl⟩|⟨rfl,rfl⟩|⟨i1,i2,i3⟩
   ·obtain⟨j1,j2,j3⟩:=D.lt e i1;have h2:=ri (O:=D.O e) (k:=0) (i:=i) (o:=o') (by rw[D.len];omega) i1;rw[Nat.zero_add]at h2;have nm:∀j,bl [] (n+1) j=n+1+j:=fun j=>by rw[fX (Nat.zero_le _)];simp
    exact .inl ⟨i,o',j1,(nm i).symm,h2,j2,j3,gT (m:=D.k) (fun j hj=>(nm j).symm) j3⟩
   ·exact .inr ⟨.inl (by omega),PM.geq (by omega),fun q=>by cases q⟩
   ·exact .inr ⟨by simp;omega,PM.gne (by omega) i1 i3,fun q=>by cases q⟩
  ·show AV.ptr (bl [] (n+1) 0) 0=_;rw[fX (Nat.zero_le _)];rfl
def HP.jR (Q R:HP):HP where
 P z X h:=∃Y Z:Nat->Prop,(∀B,X B<->Y B∨Z B)/\(∀B,Y B->¬Z B)/\Q.P z Y h/\R.P z Z h
 loc z X h g hn e:=fun⟨Y,Z,h1,h2,h3,h4⟩=>⟨Y,Z,h1,h2,Q.loc z Y h g hn (fun B hB=>e B ((h1 B).2 (.inl hB))) h3,R.loc z Z h g hn (fun B hB=>e B ((h1 B).2 (.inr hB))) h4⟩
 mono z z' X h hz:=fun⟨Y,Z,h1,h2,h3,h4⟩=>⟨Y,Z,h1,h2,Q.mono z z' Y h hz h3,R.mono z z' Z h hz h4⟩
 ex z X h B:=fun⟨Y,Z,h1,h2,h3,h4⟩ hB=>((h1 B).1 hB).elim (Q.ex z Y h B h3) (R.ex z Z h B h4)
def aI:List HP->HP
 | []=> .emp
 |Q::l=> .jR Q (aI l)
section
variable {Q R S:HP} {z:Fz->Prop} {X:Nat->Prop} {h:Hp}
theorem vZ:(HP.jR Q (.jR R S)).P z X h->(HP.jR R (.jR Q S)).P z X h:=fun⟨Y,Z,h1,h2,h3,V,W,h4,h5,h6,h7⟩=>
 ⟨V,fun B=>Y B∨W B,fun B=>by rw[h1 B,h4 B,<-or_assoc,<-or_assoc,or_comm (a:=Y B)],fun B hB hq=>hq.elim (fun q=>h2 B q ((h4 B).2 (.inl hB))) (h5 B hB),h6,Y,W,fun _=>Iff.rfl,fun B hB q=>h2 B hB ((h4 B).2 (.inr q)),h3,h7⟩
theorem tv {R':HP} (hR:∀X,R.P z X h->R'.P z X h):(HP.jR Q R).P z X h->(HP.jR Q R').P z X h:=fun⟨Y,Z,h1,h2,h3,h4⟩=>⟨Y,Z,h1,h2,h3,hR Z h4⟩
theorem su:∀(A:List HP) {B:List HP} {X:Nat->Prop},(aI (A++Q::B)).P z X h->(HP.jR Q (aI (A++B))).P z X h
 | [],_,_,h=>h
 |_::A,_,_,h=>vZ (tv (fun _=>su A) h)
theorem wa:∀(A:List HP) {B:List HP} {X:Nat->Prop},(HP.jR Q (aI (A++B))).P z X h->(aI (A++Q::B)).P z X h
 | [],_,_,h=>h
 |_::A,_,_,h=>tv (fun _=>wa A) (vZ h)
end
section
variable {φ:Ph} {H:AH} {n:Nat} {h0 h:Hp} {b m:Nat} {Q R:HP}
theorem HR.split (hr:HR φ H n h0 h) (hbn:b<n) (hb:H.get b=some (.sep (.jR Q R))):∃ψ,PLe φ ψ/\HR ψ ((H.set (some (.sep R)) aa b).set (some (.sep Q)) aa n) (n+1) h0 h:=by
 obtain⟨⟨Y,Z,y1,y2,y3,y4⟩,s4⟩:=hr.sep b _ hb;have hbo:=hr.mT hb
 have hno:φ n=none:=by
  cases e:φ n with
  |none=>rfl
  |some q=>exact absurd (hr.dom n q e).1 (Nat.lt_irrefl _)
 let ψ:Ph:=⟨φ.f,φ.z,φ.y,fun x=>if x=n then Y else if x=b then Z else φ.s x⟩
 have sn:ψ.s n=Y:=if_pos rfl
 have sb:ψ.s b=Z:=by show(if b=n then Y else if b=b then Z else _)=Z;rw[if_neg (by omega),if_pos rfl]
 have so:∀x,x≠n->x≠b->ψ.s x=φ.s x:=fun x h1 h2=>by show(if x=n then Y else if x=b then Z else φ.s x)=_;rw[if_neg h1,if_neg h2]
 have cs:∀x o,((H.set (some (.sep R)) aa b).set (some (.sep Q)) aa n).get x=some o->(x=n/\o= .sep Q)∨(x≠n/\((x=b/\o= .sep R)∨(x≠b/\H.get x=some o))):=fun x o hx=>by
  rcases PM.aj aa _ n x o hx with⟨h1,h2⟩|⟨h1,h2⟩
  ·injection h2 with h2;exact .inl ⟨h1,h2.symm⟩
  ·rcases PM.aj aa H b x o h2 with⟨h3,h4⟩|⟨h3,h4⟩
   ·injection h4 with h4;exact .inr ⟨h1,.inl ⟨h3,h4.symm⟩⟩
   ·exact .inr ⟨h1,.inr ⟨h3,h4⟩⟩
 have own:∀x o q,((H.set (some (.sep R)) aa b).set (some (.sep Q)) aa n).get x=some o->φ x=some q->H.get x=some o:=fun x o q hx hq=>by
  rcases cs x o hx with⟨rfl,_⟩|⟨_,⟨rfl,_⟩|⟨_,h3⟩⟩
  ·rw[hno]at hq;cases hq
  ·rw[hbo]at hq;cases hq
  ·exact h3
 have sle:SLe φ ψ:=⟨fun _ _ h=>h,fun _ h=>h⟩;refine⟨ψ,⟨fun _ _ h=>h,fun _ h=>h,fun _ h=>h⟩,⟨fun x q e=>⟨by have:=(hr.dom x q e).1;omega,(hr.dom x q e).2⟩,fun x o hx=>?_,fun x y o o' q q' hx hy ho ho' hq hq' e=>hr.inj x y o o' q q' (own x o q hx hq) (own y o' q' hy hq') ho ho' hq hq' e,hr.base,hr.size,fun q hq=>⟨⟨FzR.mono (φ:=φ) (ψ:=ψ) sle.z (hr.frz q hq).1.1,(hr.frz q hq).1.2⟩,fun x o px hx ho hpx=>(hr.frz q hq).2 x o px (own x o px hx hpx) ho hpx⟩,fun x Q2 hx=>?_⟩⟩
 ·rcases cs x o hx with⟨rfl,rfl⟩|⟨_,⟨rfl,rfl⟩|⟨_,h4⟩⟩
  ·exact .inl ⟨hno,rfl⟩
  ·exact .inl ⟨hbo,rfl⟩
  ·rcases hr.live x o h4 with g|⟨q,ob,g1,g2,g3,g4⟩
   ·exact .inl g
   ·exact .inr ⟨q,ob,g1,g2,g3,g4.cO sle⟩
 have up:∀{x B},ψ.s x B->∀{Q2},((H.set (some (.sep R)) aa b).set (some (.sep Q)) aa n).get x=some (.sep Q2)->∃x' Q3,H.get x'=some (.sep Q3)/\φ.s x' B/\(x'=b<->(x=b∨x=n))/\(x'≠b->x'=x):=fun{x B} hB {Q2} hx=>by
  rcases cs x _ hx with⟨rfl,_⟩|⟨h1,⟨rfl,_⟩|⟨h2,h3⟩⟩
  ·rw[sn]at hB;exact⟨b,_,hb,(y1 B).2 (.inl hB),by simp,fun q=>absurd rfl q⟩
  ·rw[sb]at hB;exact⟨x,_,hb,(y1 B).2 (.inr hB),by simp,fun q=>absurd rfl q⟩
  ·rw[so x h1 h2]at hB;exact⟨x,_,h3,hB,by simp[h1,h2],fun _=>rfl⟩
 have fin:∀{x Q2},((H.set (some (.sep R)) aa b).set (some (.sep Q)) aa n).get x=some (.sep Q2)->∀B,ψ.s x B->(B<h.n/\h0.f B=none)/\(∀b' o' p',((H.set (some (.sep R)) aa b).set (some (.sep Q)) aa n).get b'=some o'->o'.own=true->ψ b'=some p'->p'.B≠B)/\(∀q,ψ.z q->q.B≠B)/\∀b' Q',((H.set (some (.sep R)) aa b).set (some (.sep Q)) aa n).get b'=some (.sep Q')->b'≠x->¬ψ.s b' B:=fun{x Q2} hx B hB=>by
  obtain⟨x',Q3,e1,e2,e3,e4⟩:=up hB hx;obtain⟨g1,g2,g3,g4⟩:=(hr.sep x' Q3 e1).2 B e2;refine⟨g1,fun y o' p' hy ho hp=>g2 y o' p' (own y o' p' hy hp) ho hp,g3,fun y Q' hy hne hs=>?_⟩;obtain⟨y',Q4,f1,f2,f3,f4⟩:=up hs hy;by_cases q:y'=x'
  ·subst q;by_cases q2:y'=b
   ·have a1:=e3.1 q2;have a2:=f3.1 q2;rcases a1 with rfl|rfl<;>rcases a2 with rfl|rfl
    ·exact hne rfl
    ·rw[sb]at hB;rw[sn]at hs;exact y2 B hs hB
    ·rw[sn]at hB;rw[sb]at hs;exact y2 B hB hs
    ·exact hne rfl
   ·exact hne ((f4 q2).symm.trans (e4 q2))
  ·exact g4 y' Q4 f1 q f2
 refine⟨?_,fin hx⟩;rcases cs x _ hx with⟨rfl,h2⟩|⟨h1,⟨rfl,h2⟩|⟨h3,h4⟩⟩
 ·injection h2 with h2;subst h2;rw[sn];exact y3
 ·injection h2 with h2;subst h2;rw[sb];exact y4
 ·rw[so x h1 h3];exact(hr.sep x Q2 h4).1
theorem HR.join (hr:HR φ H n h0 h) (hbm:b≠m) (hb:H.get b=some (.sep R)) (hm:H.get m=some (.sep Q)):∃ψ,PLe φ ψ/\HR ψ ((H.set none aa m).set (some (.sep (.jR Q R))) aa b) n h0 h:=by
 obtain⟨r1,r2⟩:=hr.sep b _ hb;obtain⟨q1,q2⟩:=hr.sep m _ hm;have hbo:=hr.mT hb
 let ψ:Ph:=⟨φ.f,φ.z,φ.y,fun x=>if x=b then(fun B=>φ.s m B∨φ.s b B)else φ.s x⟩
 have sb:ψ.s b=fun B=>φ.s m B∨φ.s b B:=if_pos rfl
 have so:∀x,x≠b->ψ.s x=φ.s x:=fun x h1=>if_neg h1
 have cs:∀x o,((H.set none aa m).set (some (.sep (.jR Q R))) aa b).get x=some o->(x=b/\o= .sep (.jR Q R))∨(x≠b/\x≠m/\H.get x=some o):=fun x o hx=>by
  rcases PM.aj aa _ b x o hx with⟨h1,h2⟩|⟨h1,h2⟩
  ·injection h2 with h2;exact .inl ⟨h1,h2.symm⟩
  ·rcases PM.aj aa H m x o h2 with⟨h3,h4⟩|⟨h3,h4⟩
   ·cases h4
   ·exact .inr ⟨h1,h3,h4⟩
 have own:∀x o q,((H.set none aa m).set (some (.sep (.jR Q R))) aa b).get x=some o->φ x=some q->H.get x=some o:=fun x o q hx hq=>by
  rcases cs x o hx with⟨rfl,_⟩|⟨_,_,h3⟩
  ·rw[hbo]at hq;cases hq
  ·exact h3
 have sle:SLe φ ψ:=⟨fun _ _ h=>h,fun _ h=>h⟩;refine⟨ψ,⟨fun _ _ h=>h,fun _ h=>h,fun _ h=>h⟩,⟨hr.dom,fun x o hx=>?_,fun x y o o' q q' hx hy ho ho' hq hq' e=>hr.inj x y o o' q q' (own x o q hx hq) (own y o' q' hy hq') ho ho' hq hq' e,hr.base,hr.size,fun q hq=>⟨⟨FzR.mono (φ:=φ) (ψ:=ψ) sle.z (hr.frz q hq).1.1,(hr.frz q hq).1.2⟩,fun x o px hx ho hpx=>(hr.frz q hq).2 x o px (own x o px hx hpx) ho hpx⟩,fun x Q2 hx=>?_⟩⟩
 ·rcases cs x o hx with⟨rfl,rfl⟩|⟨_,_,h4⟩
  ·exact .inl ⟨hbo,rfl⟩
  ·rcases hr.live x o h4 with g|⟨q,ob,g1,g2,g3,g4⟩
   ·exact .inl g
   ·exact .inr ⟨q,ob,g1,g2,g3,g4.cO sle⟩
 have up:∀{x B},ψ.s x B->∀{Q2},((H.set none aa m).set (some (.sep (.jR Q R))) aa b).get x=some (.sep Q2)->∃x' Q3,H.get x'=some (.sep Q3)/\φ.s x' B/\(x=b/\(x'=b∨x'=m)∨x≠b/\x≠m/\x'=x):=fun{x B} hB {Q2} hx=>by
  rcases cs x _ hx with⟨rfl,_⟩|⟨h1,h2,h3⟩
  ·rw[sb]at hB;rcases hB with hB|hB
   ·exact⟨m,_,hm,hB,.inl ⟨rfl,.inr rfl⟩⟩
   ·exact⟨x,_,hb,hB,.inl ⟨rfl,.inl rfl⟩⟩
  ·rw[so x h1]at hB;exact⟨x,_,h3,hB,.inr ⟨h1,h2,rfl⟩⟩
 refine⟨?_,fun B hB=>?_⟩
 ·rcases cs x _ hx with⟨rfl,h2⟩|⟨h1,h2,h3⟩
  ·injection h2 with h2;subst h2;rw[sb];exact⟨φ.s m,φ.s x,fun _=>Iff.rfl,fun B hB=>(q2 B hB).2.2.2 x R hb hbm,q1,r1⟩
  ·rw[so x h1];exact(hr.sep x Q2 h3).1
 ·obtain⟨x',Q3,e1,e2,e3⟩:=up hB hx;obtain⟨g1,g2,g3,g4⟩:=(hr.sep x' Q3 e1).2 B e2;refine⟨g1,fun y o' p' hy ho hp=>g2 y o' p' (own y o' p' hy hp) ho hp,g3,fun y Q' hy hne hs=>?_⟩;obtain⟨y',Q4,f1,f2,f3⟩:=up hs hy;by_cases q:y'=x'
  ·subst q;rcases e3 with⟨a1,a2⟩|⟨a1,a2,a3⟩<;>rcases f3 with⟨c1,c2⟩|⟨c1,c2,c3⟩
   ·exact hne (c1.trans a1.symm)
   ·subst c3;rcases a2 with rfl|rfl
    ·exact c1 rfl
    ·exact c2 rfl
   ·subst a3;rcases c2 with rfl|rfl
    ·exact a1 rfl
    ·exact a2 rfl
   ·exact hne (c3.symm.trans a3)
  ·exact g4 y' Q4 f1 q f2
end
def Ux (run:List AV->AH->Nat->PK->Prop) (args:List AV) (H:AH) (n:Nat) (κ:PK):Prop:=∃(b:Nat) (A C:List HP) (Q:HP),b<n/\n<800000/\H.get n=none/\H.get b=some (.sep (aI (A++Q::C)))/\run args ((H.set (some (.sep (aI (A++C)))) aa b).set (some (.sep Q)) aa n) (n+1) fun v H2 n2=>∃Q',H2.get b=some (.sep (aI (A++C)))/\H2.get n=some (.sep Q')/\κ v ((H2.set none aa n).set (some (.sep (aI (A++Q'::C)))) aa b) n2
theorem ai.st {f:FuncId} {run:List AV->AH->Nat->PK->Prop} (hrun:ai f run):ai f (Ux run):=fun args H n κ ⟨b,A,C,Q,hbn,hn,hno,hb,hs⟩ φ h0 h vs K hr hargs hk=>by
 have hr1:=hr.tj (Q':= .jR Q (aI (A++C))) hb fun _ _ _=>su A
 obtain⟨ψ,l1,hr2⟩:=hr1.split hbn (PM.geq (by omega))
 have hr3:HR ψ ((H.set (some (.sep (aI (A++C)))) aa b).set (some (.sep Q)) aa n) (n+1) h0 h:=hr2.less fun x o hx=>by
  rcases PM.aj aa _ n x o hx with⟨rfl,h2⟩|⟨h1,h2⟩
  ·rw[PM.geq (by omega)];exact h2
  rcases PM.aj aa H b x o h2 with⟨rfl,h4⟩|⟨h3,h4⟩
  ·exact PM.gne (by omega) h1 (by rw[PM.geq (by omega)];exact h4)
  ·exact PM.gne (by omega) h1 (PM.gne (by omega) h3 (PM.gne (by omega) h3 h4))
 refine hrun args _ _ _ hs ψ h0 h vs K hr3 (VRs.mono l1 _ _ hargs) fun χ v H2 n2 u g hle hg hu ⟨Q',g1,g2,g3⟩=>?_
 obtain⟨ω,l2,hr4⟩:=hg.join (by omega) g1 g2;have hr5:=hr4.tj (Q':=aI (A++Q'::C)) (PM.geq (by omega)) fun _ _ _=>wa A
 refine hk ω v _ n2 u g ((l1.trans hle).trans l2) (hr5.less fun x o hx=>?_) (VR.mono l2 _ _ hu) g3;rcases PM.aj aa _ b x o hx with⟨rfl,h2⟩|⟨h1,h2⟩
 ·rw[PM.geq (by omega)];exact h2
 ·exact PM.gne (by omega) h1 (PM.gne (by omega) h1 h2)
def Uy (run:List AV->AH->Nat->PK->Prop) (args:List AV) (H:AH) (n:Nat) (κ:PK):Prop:=∃(b:Nat) (A C:List HP) (Q:HP) (v:AV) (n2:Nat),b<n/\n<800000/\H.get n=none/\H.get b=some (.sep (aI (A++Q::C)))/\n<=n2/\run args ((H.set (some (.sep (aI (A++C)))) aa b).set (some (.sep Q)) aa n) (n+1) (fun u H2 m2=>u=v/\H2=(H.set (some (.sep (aI (A++C)))) aa b).set (some (.sep Q)) aa n/\m2=n2)/\κ v H n2
theorem ai.sl {f:FuncId} {run:List AV->AH->Nat->PK->Prop} (hrun:ai f run):ai f (Uy run):=fun args H n κ ⟨b,A,C,Q,v,n2,h1,h2,h3,h4,h5,h6,h7⟩ φ h0 h vs K hr hargs hk=>by
 refine hrun.w.st args H n (fun u H2 m2=>u=v/\m2=n2/\∀x o,H.get x=some o->H2.get x=some o) ⟨b,A,C,Q,h1,h2,h3,h4,_,h6,fun u H2 m2 ⟨e1,e2,e3⟩=>?_⟩ φ h0 h vs K hr hargs fun ψ u H2 m2 w g hle hg hu ⟨e1,e2,e3⟩=>?_
 ·subst e1 e2 e3;refine⟨Q,PM.gne (by omega) (by omega) (PM.geq (by omega)),PM.geq (by omega),rfl,rfl,fun x o hx=>?_⟩;by_cases q:x=b
  ·subst q;rw[h4]at hx;injection hx with hx;subst hx;exact PM.geq (by omega)
  ·have q2:x≠n:=fun e=>by subst e;rw[h3]at hx;cases hx
   exact PM.gne (by omega) q (PM.gne (by omega) q2 (PM.gne (by omega) q2 (PM.gne (by omega) q hx)))
 ·subst e1 e2;exact hk ψ u H _ w g hle (hg.less e3) hu h7
end Go.Proofs.YtflehenfikoniaaGreat
