/- Texts of our own, joined: the engine, the machine that runs code, and what is known of the functions. -/
import Derived.Test.YtflehenfikoniaaGreatRows
import Derived.WalkKit
import Derived.Deep.Quiet
import Derived.ProofKit
import Derived.Laws.StructEq
import Derived.LaidEql
import Derived.Laws.BytesArg
import Derived.Maps.RangeRun
import Derived.RangeFuncSeq
import Derived.Scope
import Derived.Laws.Strings
import Derived.Laws.Strings2
import Derived.Below
import Derived.Carry
import Derived.OpenShut
import Derived.ChangeMaps5
import Derived.Deep.Slices
import Derived.Deep.SlicePairs
import Derived.SizedLaws
import Derived.Laws.BitsAllLaws
import Derived.RangeFuncRecord
import Derived.Test.YtflehenfikoniaaGreatJe
import Derived.Test.YtflehenfikoniaaGreatJc
set_option linter.unusedSimpArgs false
set_option linter.unusedVariables false
set_option maxHeartbeats 16000000
set_option maxRecDepth 100000
namespace Go.Proofs.YtflehenfikoniaaGreat
open Go Go.RowKit
def Ta (X:SpV) (k:Tx) (e:iK):SpV:=gW X k {e with L:=aO e.L 0 1099511627776}
noncomputable def lkF (X:SpV) (r:Rl):SpV×Int:=if(rlF X r).2≠0 then rlF X r else match(rlF X r).1.K r.dst,(rlF X r).1.K r.src with
 |some d,some s=>((sR r (Ta (rlF X r).1 r.dst d) (bX 0 1099511627776 s.L)).2,0)
 |_,_=>rlF X r
def U2 (X:SpV) (cs:List AV) (X':SpV) (v:AV):Prop:=∃r Y,cs=[gR r]/\X.n<1000/\Bnd X 5000/\lkF X r=Y/\X'=Y.1/\v= .si .i64 Y.2
def MN:DT:=[(4,[(some 0,[0]),(some 0,[12]),(some 0,[13]),(some 0,[14]),(some 0,[3]),(some 0,[16]),(some 0,[15,17]),(some 0,[18])]),
 (5,[(some 0,[0]),(some 0,[3]),(some 0,[0]),(some 0,[23]),(some 0,[24]),(some 0,[25]),(some 0,[3]),(some 0,[27]),(some 0,[26,28]),(some 0,[29]),(none,[30])])]
noncomputable def U3:FuncId->EP:=aV 48 MN (aw 38 (ij 5 SpB S7) (cT 21 (tB Eh) (aw 100 ya (aw 102 (ij 5 SpB MM) evP))))
theorem Pq:aW U3:=aq (ae (a8 (ae (ae az GP) zU) ML (EJ _)) EI) (by kernel_rfl) (by kernel_rfl)
theorem Tb {X:SpV} {r:Rl} (h:(rlF X r).2=0):cX r=true/\(X.K r.src).isSome=true/\(X.K r.dst).isSome=true/\(rlF X r).1={I0 X r.dst (some r)with n:=X.n+1}:=by
 unfold rlF at*;split at h
 ·rename_i h1;rw[if_pos h1];split at h
  ·rename_i h2;rw[if_pos h2];split at h
   ·cases h
   ·rename_i h3;rw[if_neg h3];split at h
    ·cases h
    ·rename_i h4;rw[if_neg h4];exact⟨h1,h2.1,h2.2,rfl⟩
  ·cases h
 ·cases h
theorem EK (X:SpV) (r:Rl) (c:SpC) (hc:cg X c) (hn:X.n<1000) (hb:Bnd X 5000) {Y:SpV×Int} (hY:lkF X r=Y):ax U3 6 48 [.ptr 0 0,gR r] (mkH (bH (spO c) 0)) 5 (gj SpB Y.1 (.si .i64 Y.2)):=by
 obtain⟨Y1,Y2⟩:=Y;have hok:=Tb (X:=X) (r:=r);unfold lkF at hY;obtain⟨Z,hZ⟩:∃Z,Z=rlF X r:=⟨_,rfl⟩;rw[<-hZ]at hY hok;obtain⟨Z1,Z2⟩:=Z;dsimp only at hY hok
 conv=>whnf
 refine⟨X,[gR r],Z1,.si .i64 Z2,_,c,rfl,by decide,.cons .same .nil,hc,sM rfl rfl rfl rfl rfl,⟨r,_,rfl,hn,hZ.symm,rfl,rfl⟩,fun c1 hc1=>?_⟩
 conv=>whnf
 refine ag.dh (fun z1=>?_) (fun z1=>?_)
 focus
  rw[if_pos z1]at hY;injection hY with e1 e2;subst e1 e2
  conv=>whnf
  exact⟨_,c1,.told rfl,hc1,bU rfl rfl rfl rfl rfl⟩
 rw[if_neg (fun q=>q z1)]at hY;obtain⟨h1,h2,h3,h4⟩:=hok z1;have hKZ:Z1.K=X.K:=by rw[h4];rfl
 obtain⟨s,hs⟩:=Option.isSome_iff_exists.1 h2;obtain⟨d,hd⟩:=Option.isSome_iff_exists.1 h3;have hs1:Z1.K r.src=some s:=by rw[hKZ];exact hs
 have hd1:Z1.K r.dst=some d:=by rw[hKZ];exact hd
 rw[hs1,hd1]at hY;dsimp only at hY;injection hY with e1 e2;subst e1 e2;have hne:=sQ h1;have ls:=hb _ _ hs;have ld:=hb _ _ hd;obtain⟨p2,B1,B2,g2,a2,u2,q2⟩:=hc1.at1 hd1;obtain⟨L',hL'⟩:∃L',L'=aO d.L 0 1099511627776:=⟨_,rfl⟩
 conv=>whnf
 refine Ask.mk _ (aY (m:=c1.m) (g:=gE) (k:=r.dst) bN ow rfl rfl rfl qh g2) ?_
 conv=>whnf
 refine⟨4,aK B1,aK B2,p2,d.S,d.L,0,1099511627776,L',_,rfl,by decide,by decide,rfl,congrArg (fun x=>some (AO.sep (aI x))) q2,rfl,rfl,by omega,hL'.symm,rfl,fun ho=>?_⟩;obtain⟨k1,k2,k3⟩:=hc1.wW hd1 g2 a2 u2 ho;obtain⟨X2,hX2⟩:∃X2,X2=Ta Z1 r.dst d:=⟨_,rfl⟩;have hX2':gW Z1 r.dst {d with S:=d.S,L:=L'}=X2:=by rw[hX2,hL'];rfl
 rw[hX2']at k1;rw[<-hX2];obtain⟨c2,hc2⟩:∃c2:SpC,c2={c1 with m:=c1.m.put r.dst ⟨p2,d.S,L',d.z⟩}:=⟨_,rfl⟩;rw[<-hc2]at k1;have k2':c1.m.O kT gE=c2.m.O kT gE:=by rw[hc2];exact k2.symm
 have k3':aK B1++cD p2 d.S L'::aK B2=aK c2.m.A:=by rw[hc2];exact k3.symm
 have hpx:c1.px=c2.px/\c1.pg=c2.pg/\c1.x=c2.x/\c1.g=c2.g:=by rw[hc2];exact⟨rfl,rfl,rfl,rfl⟩
 have hs2:X2.K r.src=some s:=by rw[hX2];unfold Ta;rw[jL,if_neg hne];exact hs1
 have hdL:L'.length<=5000:=by rw[hL'];exact Nat.le_trans (List.length_filter_le _ _) ld
 have hB2:Bnd X2 25000:=fun x y hy=>by
  rw[<-hX2',jL]at hy;split at hy
  ·injection hy with hy;subst hy;exact Nat.le_trans hdL (by decide)
  ·rw[hKZ]at hy;exact Nat.le_trans (hb x y hy) (by decide)
 have hd2:(X2.K r.dst).isSome=true:=by rw[<-hX2',jL,if_pos rfl];rfl
 obtain⟨p1,A1,A2,g1,a1,u1,q1⟩:=k1.at1 hs2;have hO:(PM.set (some (.sep (aI (aK B1++cD p2 d.S L'::aK B2)))) aa (mkH (bH (spO c1) 0)) 4).get 4=some (.sep (aI (aK c2.m.A))):=congrArg (fun x=>some (AO.sep (aI x))) k3'
 conv=>whnf
 refine Ask.mk _ (aY (m:=c2.m) (g:=gE) (k:=r.src) bN ow rfl rfl (congrArg some k2') qh g1) ?_
 conv=>whnf
 refine⟨4,aK A1,aK A2,p1,s.S,s.L,bX 0 1099511627776 s.L,rfl,by decide,by decide,rfl,congrArg (fun x=>some (AO.sep (aI x))) (k3'.trans q1),⟨_,_,0,1099511627776,rfl,rfl,rfl,rfl⟩,?_⟩
 conv=>whnf
 refine⟨X2,[gR r,.fr (bX 0 1099511627776 s.L).length 2 (smp (bX 0 1099511627776 s.L))],_,.tup [],_,c2,rfl,by decide,.cons .same (.cons .same .nil),k1,sM ?_ (congrArg some k2') ?_ ?_ (congrArg (fun x=>some (AO.sep (aI x))) k3'),⟨r,bX 0 1099511627776 s.L,rfl,Nat.le_trans (List.length_filter_le _ _) ls,hne,by rw[hs2];rfl,hd2,hB2,rfl,rfl⟩,fun c3 hc3=>?_⟩
 ·rw[<-hpx.1,<-hpx.2.1];exact rfl
 ·rw[<-hpx.1,<-hpx.2.2.1];exact rfl
 ·rw[<-hpx.2.1,<-hpx.2.2.2];exact rfl
 conv=>whnf
 exact⟨_,c3,.told rfl,hc3,bU rfl rfl rfl rfl rfl⟩
theorem MO:ai 48 (dS 5 SpB U2):=gx Pq 6 (by kernel_rfl) SpB rfl (by decide) fun X cs X' v ⟨r,Y,h1,h2,h3,h4,h5,h6⟩=>by
 subst h1 h5 h6;exact⟨rfl,rfl,fun c hc=>EK X r c hc h2 h3 h4⟩
theorem Tc {R:Gr} {so:Rl->Bool} (hk:(R.map Prod.fst).Nodup) (hd:∀e∈R,e.2.dst=e.1):((pkF R so).map Rl.dst).Nodup:=by
 have hN:=sN (bd ((R.filter fun e=>so e.2).map Prod.fst)).1;have hS:=sN (bd ((R.filter fun e=>so e.2).map fun e=>e.2.src)).1
 have hid:∀d∈aG ((R.filter fun e=>so e.2).map Prod.fst),(rul R d).dst=d:=fun d h=>by
  rw[(bd _).2,List.mem_map]at h;obtain⟨e,he,rfl⟩:=h;have h1:=dX hk (show(e.1,e.2)∈R from(List.mem_filter.1 he).1);unfold rul;rw[h1];exact hd e (List.mem_filter.1 he).1
 have e1:∀s,(pkS (aG ((R.filter fun e=>so e.2).map Prod.fst)) R s).map Rl.dst=(aG ((R.filter fun e=>so e.2).map Prod.fst)).filter fun d=>decide ((rul R d).src=s):=fun s=>by
  unfold pkS;rw[List.map_map]
  conv=>rhs;rw[<-List.map_id (List.filter _ _)]
  exact List.map_congr_left fun d hd'=>hid d (List.mem_filter.1 hd').1
 unfold pkF;rw[List.map_flatMap];have e2:(fun s=>(pkS (aG ((R.filter fun e=>so e.2).map Prod.fst)) R s).map Rl.dst)=fun s=>(aG ((R.filter fun e=>so e.2).map Prod.fst)).filter fun d=>decide ((rul R d).src=s):=funext e1
 rw[e2];refine List.pairwise_flatMap.2 ⟨fun s _=>hN.filter _,hS.imp fun{a b} hab x hx y hy q=>?_⟩;subst q;have h1:=(List.mem_filter.1 hx).2;have h2:=(List.mem_filter.1 hy).2;simp only[decide_eq_true_eq]at h1 h2;exact hab (h1.symm.trans h2)
theorem cg.U4 {X:SpV} {c:SpC} (h:cg X c) (k:Tx):((ofX X k).map Rl.dst).Nodup:=by
 rw[<-h.of];exact Tc h.gk h.dst
theorem I5 {X:SpV} {r:Rl} {t:Int} {e:iK} (h:(cw X r t).K r.dst=some e):∃d,X.K r.dst=some d/\e.L.length<=d.L.length+1:=by
 unfold cw at h;split at h
 ·rename_i s d h1 h2;rw[jL,if_pos rfl]at h;injection h with h;subst h;refine⟨d,h2,?_⟩;show(ik r t s d).2.length<=_;unfold ik;split
  ·exact Nat.le_succ _
  ·split
   ·exact re _ _ _ _ _
   ·exact Nat.le_trans (List.length_filter_le _ _) (Nat.le_succ _)
 ·exact⟨e,h,Nat.le_succ _⟩
theorem CJ {r:Rl}:∀(L:Smp) {s:Int×SpV} {e:iK},((L.foldl (dK r) s).2.K r.dst=some e)->∃d,s.2.K r.dst=some d/\e.L.length<=d.L.length+L.length
 | [],s,e,h=>⟨e,h,Nat.le_refl _⟩
 |x::L,s,e,h=>by
  obtain⟨d,h1,h2⟩:=CJ L h;rw[List.length_cons];unfold dK at h1;split at h1
  ·obtain⟨d2,h3,h4⟩:=I5 h1;exact⟨d2,h3,by omega⟩
  ·exact⟨d,h1,by omega⟩
def fv (gone:Smp) (X:SpV) (r:Rl):SpV:=(sR r X gone).2
theorem wG {gone:Smp} {b:Nat}:∀(Ls:List Rl) {X:SpV},(Ls.map Rl.dst).Nodup->(∀x e,X.K x=some e->e.L.length<=b+gone.length/\(x∈Ls.map Rl.dst->e.L.length<=b))->(Ls.foldl (fv gone) X).R=X.R/\(Ls.foldl (fv gone) X).n=X.n/\(∀x,((Ls.foldl (fv gone) X).K x).isSome=(X.K x).isSome)/\(∀x,x∉Ls.map Rl.dst->(Ls.foldl (fv gone) X).K x=X.K x)/\Bnd (Ls.foldl (fv gone) X) (b+gone.length)
 | [],X,_,h=>⟨rfl,rfl,fun _=>rfl,fun _ _=>rfl,fun x e he=>(h x e he).1⟩
 |r::Ls,X,nd,h=>by
  rw[List.map_cons,List.nodup_cons]at nd;obtain⟨a1,a2,a3,a4,_,_⟩:=m5 (r:=r) (k:=r.src) gone (s:=(-1,X)) (b:=b+gone.length) (fun x e he=>(h x e he).1) (Int.le_refl _)
  have h2:∀x e,(fv gone X r).K x=some e->e.L.length<=b+gone.length/\(x∈Ls.map Rl.dst->e.L.length<=b):=fun x e he=>by
   by_cases q:x=r.dst
   ·subst q;obtain⟨d,h3,h4⟩:=CJ gone he;have:=(h _ d h3).2 (by simp);exact⟨by omega,fun q=>absurd q nd.1⟩
   ·have he2:X.K x=some e:=(a4 x q).symm.trans he;obtain⟨h3,h4⟩:=h x e he2;exact⟨h3,fun q2=>h4 (by rw[List.map_cons];exact List.mem_cons_of_mem _ q2)⟩
  obtain⟨b1,b2,b3,b4,b5⟩:=wG Ls nd.2 h2;exact⟨b1.trans a1,b2.trans a2,fun x=>(b3 x).trans (a3 x),fun x hx=>(b4 x fun q=>hx (by rw[List.map_cons];exact List.mem_cons_of_mem _ q)).trans (a4 x fun q=>hx (by rw[q];simp)),b5⟩
noncomputable def I6 (X:SpV) (k:Tx) (a b:Int):SpV×Int×Int:=if dz X k≠0 then(X,0,dz X k)else match X.K k with
 |none=>(X,0,5)
 |some e=>((ofX X k).foldl (fv (bX a b e.L)) (gW X k {e with L:=aO e.L a b}),((e.L.length-(aO e.L a b).length:Nat):Int),0)
def GQ (X:SpV) (cs:List AV) (X':SpV) (u:AV):Prop:=∃k a b Y,cs=[.ss k,.si .i64 a,.si .i64 b]/\Links X/\Bnd X 5000/\I6 X k a b=Y/\X'=Y.1/\u= .tup [.si .i64 Y.2.1,.si .i64 Y.2.2]
noncomputable def U5:FuncId->EP:=aV 44 [] (aV 101 [] (aV 73 [] (aw 133 (dI 2 GrB Mn) (aw 61 (ij 5 SpB O5) (cT 21 (tB Eh) (aw 100 ya (aw 102 (ij 5 SpB MM) evP)))))))
theorem Pr:aW U5:=aq (aq (aq (ae (ae (a8 (ae (ae az GP) zU) ML (EJ _)) zS) Mo) (by kernel_rfl) (by kernel_rfl)) (by kernel_rfl) (by kernel_rfl)) (by kernel_rfl) (by kernel_rfl)
noncomputable def dlL (c:SpC) (gone:Smp) (L:List Rl) (j:Nat):AE×AH:=(mkE [(2,AV.fn 101 [] [.ptr 5 0,.ptr 11 0]),(13,.fr L.length 5 (ruL L)),(14,.si .i64 ((L.length:Int))),(15,.si .i64 ((j:Int)))],mkH [(0,.cells [.map 1,aQ c.px,aQ c.pg] true),(1,c.m.O kT gE),(2,.sep (IxB.Q c.x c.px)),(3,.sep (GrB.Q c.g c.pg)),(4,.sep (aI (aK c.m.A))),(5,.cells [.ptr 0 0] true),(11,.cells [.fr gone.length 2 (smp gone)] true)])
theorem GR {c:SpC} {gone:Smp} {L:List Rl} {j:Nat} {p n:Nat} {σ:AE} {H:AH} (hp:p<=17) (e2:ah H 17 (fun b=>b) (ak (pa 2) σ) (AV.fn 101 [] [.ptr 5 0,.ptr 11 0])) (e13:ak (pa 13) σ= .fr L.length 5 (ruL L)) (e14:mk (ak (pa 14) σ)= .si .i64 ((L.length:Int))) (e15:mk (ak (pa 15) σ)= .si .i64 ((j:Int))) (h0:H.get 0=some (.cells [.map 1,aQ c.px,aQ c.pg] true)) (h1:H.get 1=some (c.m.O kT gE)) (h2:H.get 2=some (.sep (IxB.Q c.x c.px))) (h3:H.get 3=some (.sep (GrB.Q c.g c.pg))) (h4:H.get 4=some (.sep (aI (aK c.m.A)))) (h5:H.get 5=some (.cells [.ptr 0 0] true)) (h11:H.get 11=some (.cells [.fr gone.length 2 (smp gone)] true)):Cov p σ H n ((dlL c gone L j).1,(dlL c gone L j).2,17):=
 Cov.ofA hp ⟨e2,ah.frE e13,.int e14,.int e15,trivial⟩ ⟨.inl ⟨_,h0,au.refl rfl⟩,.inl ⟨_,h1,au.refl (bg dw tz)⟩,.inl ⟨_,h2,au.sep _⟩,.inl ⟨_,h3,au.sep _⟩,.inl ⟨_,h4,au.sep _⟩,.inl ⟨_,h5,au.refl rfl⟩,.inl ⟨_,h11,au.refl rfl⟩,trivial⟩ rfl
theorem I7 (X:SpV) (k:Tx) (a b:Int) (c:SpC) (hc:cg X c) (hl:Links X) (hb:Bnd X 5000) {Y:SpV×Int×Int} (hY:I6 X k a b=Y):ax U5 6 44 [.ptr 0 0,.ss k,.si .i64 a,.si .i64 b] (mkH (bH (spO c) 0)) 5 (gj SpB Y.1 (.tup [.si .i64 Y.2.1,.si .i64 Y.2.2])):=by
 obtain⟨Y1,Y2,Y3⟩:=Y
 conv=>whnf
 refine⟨X,[.ss k],X,_,_,c,rfl,by decide,.cons .same .nil,hc,sM rfl rfl rfl rfl rfl,⟨k,rfl,rfl,rfl⟩,fun c1 hc1=>?_⟩
 conv=>whnf
 refine ag.dh (fun z1=>?_) (fun z1=>?_)
 focus
  unfold I6 at hY;rw[if_pos z1]at hY;injection hY with e1 e2;injection e2 with e2 e3;subst e1 e2 e3
  conv=>whnf
  exact⟨_,c1,.told rfl,hc1,bU rfl rfl rfl rfl rfl⟩
 have z1:dz X k=0:=z1;unfold I6 at hY;rw[if_neg (by rw[z1];exact fun q=>q rfl)]at hY
 have hK:(X.K k).isSome=true:=by
  unfold dz at z1;by_cases q:(X.K k).isSome=true
  ·exact q
  ·rw[if_neg q]at z1;cases z1
 obtain⟨e,he⟩:=Option.isSome_iff_exists.1 hK;rw[he]at hY;dsimp only at hY;injection hY with e1 e2;injection e2 with e2 e3;obtain⟨p1,A1,A2,g1,a1,u1,q1⟩:=hc1.at1 he;have hL:=hb k e he;obtain⟨gone,hgo⟩:∃gone,gone=bX a b e.L:=⟨_,rfl⟩;obtain⟨L',hL'⟩:∃L',L'=aO e.L a b:=⟨_,rfl⟩;have hgl:gone.length<=5000:=by rw[hgo];exact Nat.le_trans (List.length_filter_le _ _) hL
 have hLl:L'.length<=5000:=by rw[hL'];exact Nat.le_trans (List.length_filter_le _ _) hL
 rw[<-hgo,<-hL']at e1;rw[<-hL']at e2
 conv=>whnf
 refine Ask.mk _ (aY (m:=c1.m) (g:=gE) (k:=k) bN ow rfl rfl rfl qh g1) ?_
 conv=>whnf
 refine⟨4,aK A1,aK A2,p1,e.S,e.L,gone,rfl,by decide,by decide,rfl,congrArg (fun x=>some (AO.sep (aI x))) q1,⟨_,_,a,b,rfl,rfl,rfl,hgo⟩,?_⟩
 conv=>whnf
 refine Ask.mk _ (aY (m:=c1.m) (g:=gE) (k:=k) bN ow rfl rfl rfl qh g1) ?_
 conv=>whnf
 refine⟨4,aK A1,aK A2,p1,e.S,e.L,a,b,L',_,rfl,by decide,by decide,rfl,congrArg (fun x=>some (AO.sep (aI x))) q1,rfl,rfl,by omega,hL'.symm,rfl,fun ho=>?_⟩;obtain⟨k1,k2,k3⟩:=hc1.wW he g1 a1 u1 ho;obtain⟨Ls,hLs⟩:∃Ls,Ls=ofX X k:=⟨_,rfl⟩;have hR1:ofG c1.g k=Ls:=by rw[hLs];exact hc1.of k
 have hnd:(Ls.map Rl.dst).Nodup:=by rw[hLs];exact hc1.U4 k
 rw[<-hLs]at e1
 have hmem:∀r∈Ls,k≠r.dst/\X.R r.dst=some r/\r.src=k/\r.src≠r.dst:=fun r hr=>by
  rw[hLs]at hr;obtain⟨m1,m2⟩:=hc1.ME.1 hr;have:=sQ (hc1.rul _ _ m1);exact⟨fun q=>this (m2.trans q),m1,m2,this⟩
 have hlen:Ls.length<=1000:=by rw[hLs];exact hc1.MF k
 have hgg:c1.g.length<=1000:=Nat.le_trans hc1.gl hc1.n9;obtain⟨X1,hX1⟩:∃X1,X1=gW X k {e with L:=L'}:=⟨_,rfl⟩;have k1:cg X1 {c1 with m:=c1.m.put k ⟨p1,e.S,L',e.z⟩}:=by rw[hX1];exact k1
 rw[<-hX1]at e1
 have hB1:Bnd X1 5000:=fun x y hy=>by
  rw[hX1,jL]at hy;split at hy
  ·injection hy with hy;subst hy;exact hLl
  ·exact hb x y hy
 have hXs:∀x,(X1.K x).isSome=(X.K x).isSome:=fun x=>by
  rw[hX1,jL];by_cases q:x=k
  ·subst q;rw[if_pos rfl,he];rfl
  ·rw[if_neg q]
 obtain⟨c2,hc2⟩:∃c2:SpC,c2={c1 with m:=c1.m.put k ⟨p1,e.S,L',e.z⟩}:=⟨_,rfl⟩;have k2':c1.m.O kT gE=c2.m.O kT gE:=by rw[hc2];exact k2.symm
 have k3':aK A1++cD p1 e.S L'::aK A2=aK c2.m.A:=by rw[hc2];exact k3.symm
 have hpx:c2.px=c1.px/\c2.pg=c1.pg/\c2.x=c1.x/\c2.g=c1.g:=by rw[hc2];exact⟨rfl,rfl,rfl,rfl⟩
 rw[<-hc2]at k1;subst e1 e2 e3
 conv=>whnf
 refine⟨3,c1.pg,c1.g,[.ss k],.fr Ls.length 5 (ruL Ls),rfl,by decide,by decide,.cons .same .nil,rfl,rfl,⟨k,rfl,hgg,by rw[hR1]⟩,?_⟩
 conv=>whnf
 refine aS.mk {w:Nat×SpC//w.1<=Ls.length/\cg ((Ls.take w.1).foldl (fv gone) X1) w.2} 17 (fun w=>dlL w.val.2 gone Ls w.val.1) (fun w=>Ls.length-w.val.1) ⟨(0,c2),Nat.zero_le _,k1⟩ ?_ ?_
 focus
  refine GR (c:=c2) (gone:=gone) (L:=Ls) (j:=0) ?_ ?_ ?_ ?_ ?_ ?_ ?_ ?_ ?_ ?_ ?_ ?_
  ·exact Nat.le_refl 17
  ·exact ah.cY (k:=17) rfl rfl (Nat.le_refl 17) (fun _ _=>rfl)
  ·exact rfl
  ·exact rfl
  ·exact rfl
  ·rw[hpx.1,hpx.2.1];exact rfl
  ·exact congrArg some k2'
  ·rw[hpx.1,hpx.2.2.1];exact rfl
  ·rw[hpx.2.1,hpx.2.2.2];exact rfl
  ·exact congrArg (fun x=>some (AO.sep (aI x))) k3'
  ·exact rfl
  ·exact rfl
 intro⟨(j,c3),hj,hc3⟩;have hj:j<=Ls.length:=hj;obtain⟨Xj,hXj⟩:∃Xj,Xj=(Ls.take j).foldl (fv gone) X1:=⟨_,rfl⟩;have hc3:cg Xj c3:=by rw[hXj];exact hc3
 have hw:IntKind.i64.wrap ((j:Int)+1)=((j+1:Nat):Int):=by rw[al (by omega) (by omega)];omega
 have ndj:((Ls.take j).map Rl.dst).Nodup:=by rw[List.map_take];exact hnd.sublist (List.take_sublist _ _)
 obtain⟨f1,f2,f3,f4,f5⟩:=wG (gone:=gone) (b:=5000) (Ls.take j) (X:=X1) ndj fun x y hy=>⟨Nat.le_trans (hB1 x y hy) (Nat.le_add_right _ _),fun _=>hB1 x y hy⟩
 rw[<-hXj]at f1 f2 f3 f4 f5;have hB3:Bnd Xj 25000:=fun x y hy=>Nat.le_trans (f5 x y hy) (by omega)
 conv=>whnf
 refine ag.dec (fun h=>?_) (fun h=>?_)
 focus
  have h3:j<Ls.length:=Int.ofNat_lt.1 h;have hlt:Ls.length-(j+1)<Ls.length-j:=by omega
  obtain⟨r,hr⟩:∃r,r=Ls[j]:=⟨_,rfl⟩;have sub:bp (ruL Ls) (j*5) 5=some (ruC r):=by rw[hr];exact zN h3 rfl
  obtain⟨m1,m2,m3,m4⟩:=hmem r (by rw[hr];exact List.getElem_mem h3)
  have hnext:(Ls.take (j+1)).foldl (fv gone) X1=(sR r Xj gone).2:=by
   rw[List.take_succ_eq_append_getElem h3,List.foldl_append,<-hXj,<-hr];rfl
  have hS:(Xj.K r.src).isSome=true:=by rw[f3,hXs];exact(hl _ _ m2).1
  have hD:(Xj.K r.dst).isSome=true:=by rw[f3,hXs];exact(hl _ _ m2).2
  conv=>whnf
  refine Idx.mk j rfl h3 ?_
  conv=>whnf
  refine ay sub ?_
  conv=>whnf
  refine⟨Xj,[gR r,.fr gone.length 2 (smp gone)],_,.tup [],_,c3,rfl,by decide,.cons .same (.cons .same .nil),hc3,sM rfl rfl rfl rfl rfl,⟨r,gone,rfl,hgl,m4,hS,hD,hB3,rfl,rfl⟩,fun c5 hc5=>?_⟩
  conv=>whnf
  exact⟨⟨(j+1,c5),h3,by rw[hnext];exact hc5⟩,hlt,GR (c:=c5) (gone:=gone) (L:=Ls) (j:=j+1) (Nat.le_refl 17) (ah.cY (k:=17) rfl rfl (Nat.le_refl 17) (fun _ _=>rfl)) rfl rfl (congrArg (AV.si .i64) hw) rfl rfl rfl rfl rfl rfl rfl⟩
 have ej:j=Ls.length:=by have h:¬(j:Int)<(Ls.length:Int):=h;omega
 have hfin:cg (Ls.foldl (fv gone) X1) c3:=by rw[<-List.take_length (l:=Ls),<-ej,<-hXj];exact hc3
 conv=>whnf
 exact⟨_,c3,.told rfl,hfin,bU rfl rfl rfl rfl rfl⟩
theorem Pt:ai 44 (dS 5 SpB GQ):=gx Pr 6 (by kernel_rfl) SpB rfl (by decide) fun X cs X' u ⟨k,a,b,Y,h1,h2,h3,h4,h5,h6⟩=>by
 subst h1 h5 h6;exact⟨rfl,rfl,fun c hc=>I7 X k a b c hc h2 h3 h4⟩
def m6 (a b:Int):Int×Int:=if po a b=true then(0,9)else(IntKind.i64.wrap (a+b),0)
def U6 (cs:List AV) (v:AV):Prop:=∃a b,cs=[.si .i64 a,.si .i64 b]/\v= .tup [.si .i64 (m6 a b).1,.si .i64 (m6 a b).2]
theorem Wc:ai 23 (aZ U6):=fH (an az 2 _) (by kernel_rfl) fun cs v ⟨a,b,h1,h2⟩=>by
 subst h1 h2;refine⟨rfl,rfl,?_⟩;have y1:po a b=true->m6 a b=(0,9):=fun q=>if_pos q
 have y0:po a b=false->m6 a b=(IntKind.i64.wrap (a+b),0):=fun q=>if_neg (by rw[q];simp)
 have o1:0<=b->IntKind.i64.wrap (a+b)<a->po a b=true:=fun p q=>decide_eq_true (.inl ⟨p,q⟩)
 have o2:b<0->a<IntKind.i64.wrap (a+b)->po a b=true:=fun p q=>decide_eq_true (.inr ⟨p,q⟩)
 have o0:(0<=b->¬IntKind.i64.wrap (a+b)<a)->(b<0->¬a<IntKind.i64.wrap (a+b))->po a b=false:=fun p q=>decide_eq_false fun h=>h.elim (fun h=>p h.1 h.2) (fun h=>q h.1 h.2)
 have t1:po a b=true->cF (.tup [.si .i64 (m6 a b).1,.si .i64 (m6 a b).2]) (.tup [.int .i64 0,.int .i64 9]) .nil 0:=fun q=>cF.told (by rw[y1 q];rfl)
 have t0:po a b=false->cF (.tup [.si .i64 (m6 a b).1,.si .i64 (m6 a b).2]) (.tup [.si .i64 (IntKind.i64.wrap (a+b)),.int .i64 0]) .nil 0:=fun q=>cF.told (by rw[y0 q];rfl)
 clear y1 y0
 conv=>whnf
 refine ag.dec (fun z1=>?_) (fun z1=>?_)
 ·conv=>whnf
  refine ag.dec (fun z2=>?_) (fun z2=>?_)
  ·have q:=t1 (o1 z1 z2)
   conv=>whnf
   exact q
  ·have q:=t0 (o0 (fun _=>z2) (fun z=>by omega))
   conv=>whnf
   refine ag.dec (fun z3=>?_) (fun z3=>?_)
   ·exact absurd z3 (by omega)
   ·conv=>whnf
    exact q
 ·conv=>whnf
  refine ag.dec (fun z3=>?_) (fun z3=>?_)
  ·conv=>whnf
   refine ag.dec (fun z2=>?_) (fun z2=>?_)
   ·have q:=t1 (o2 z3 z2)
    conv=>whnf
    exact q
   ·have q:=t0 (o0 (fun z=>absurd z z1) (fun _=>z2))
    conv=>whnf
    exact q
  ·exact absurd z3 (by omega)
theorem I8 (a b:Int):aN (m6 a b).1:=by
 unfold m6;split
 ·exact⟨by decide,by decide⟩
 ·exact oY _
noncomputable def I9 (X:SpV) (k:Tx) (t y:Int):SpV×Int×Int:=if dz X k≠0 then(X,0,dz X k)else match X.K k with
 |none=>(X,0,5)
 |some e=>if t<0∨1099511627776<=t then(X,0,1)else if 0<(e.L.length:Int)/\t<tAt e.L (e.L.length-1)then(X,0,7)
  else if(m6 (vAt e.L (e.L.length-1)) y).2≠0 then(X,0,(m6 (vAt e.L (e.L.length-1)) y).2)
  else if(o8 X k t (m6 (vAt e.L (e.L.length-1)) y).1 3).2≠0 then((o8 X k t (m6 (vAt e.L (e.L.length-1)) y).1 3).1,0,(o8 X k t (m6 (vAt e.L (e.L.length-1)) y).1 3).2)
  else((o8 X k t (m6 (vAt e.L (e.L.length-1)) y).1 3).1,(m6 (vAt e.L (e.L.length-1)) y).1,0)
def QH (X:SpV) (cs:List AV) (X':SpV) (u:AV):Prop:=∃k t y Y,cs=[.ss k,.si .i64 t,.si .i64 y]/\Links X/\Bnd X 20000/\I9 X k t y=Y/\X'=Y.1/\u= .tup [.si .i64 Y.2.1,.si .i64 Y.2.2]
noncomputable def U7:FuncId->EP:=aV 19 [] (aw 61 (ij 5 SpB O5) (aw 32 (ij 5 SpB rA) (aw 18 (mi Sh) (aw 23 (aZ U6) evP))))
theorem Pu:aW U7:=aq (ae (ae (ae (ae az Wc) UW) Pc) zS) (by kernel_rfl) (by kernel_rfl)
theorem EL (X:SpV) (k:Tx) (t y:Int) (c:SpC) (hc:cg X c) (hl:Links X) (hb:Bnd X 20000) {Y:SpV×Int×Int} (hY:I9 X k t y=Y):ax U7 6 19 [.ptr 0 0,.ss k,.si .i64 t,.si .i64 y] (mkH (bH (spO c) 0)) 5 (gj SpB Y.1 (.tup [.si .i64 Y.2.1,.si .i64 Y.2.2])):=by
 obtain⟨Y1,Y2,Y3⟩:=Y
 conv=>whnf
 refine⟨X,[.ss k],X,_,_,c,rfl,by decide,.cons .same .nil,hc,sM rfl rfl rfl rfl rfl,⟨k,rfl,rfl,rfl⟩,fun c1 hc1=>?_⟩
 conv=>whnf
 refine ag.dh (fun z1=>?_) (fun z1=>?_)
 focus
  unfold I9 at hY;rw[if_pos z1]at hY;injection hY with e1 e2;injection e2 with e2 e3;subst e1 e2 e3
  conv=>whnf
  exact⟨_,c1,.told rfl,hc1,bU rfl rfl rfl rfl rfl⟩
 have z1:dz X k=0:=z1;unfold I9 at hY;rw[if_neg (by rw[z1];exact fun q=>q rfl)]at hY
 have hK:(X.K k).isSome=true:=by
  unfold dz at z1;by_cases q:(X.K k).isSome=true
  ·exact q
  ·rw[if_neg q]at z1;cases z1
 obtain⟨e,he⟩:=Option.isSome_iff_exists.1 hK;rw[he]at hY;dsimp only at hY;obtain⟨p1,A1,A2,g1,a1,u1,q1⟩:=hc1.at1 he;have hL:=hb k e he;obtain⟨lt,hlt⟩:∃lt,lt=tAt e.L (e.L.length-1):=⟨_,rfl⟩;obtain⟨lv,hlv⟩:∃lv,lv=vAt e.L (e.L.length-1):=⟨_,rfl⟩;have hlast:ra e.L= .tup [.agg [.si .i64 lt,.si .i64 lv],.sb (decide ((0:Int)<(e.L.length:Int)))]:=by rw[hlt,hlv];rfl
 rw[<-hlt,<-hlv]at hY;obtain⟨P,hP⟩:∃P,P=m6 lv y:=⟨_,rfl⟩;have hP64:aN P.1:=by rw[hP];exact I8 _ _
 rw[<-hP]at hY;obtain⟨P1,P2⟩:=P;dsimp only at hY hP64;obtain⟨W,hW⟩:∃W,W=o8 X k t P1 3:=⟨_,rfl⟩;rw[<-hW]at hY;obtain⟨W1,W2⟩:=W;dsimp only at hY;have fin:∀{u H n c'},cg Y1 c'->mkT u=mkT (.tup [.si .i64 Y2,.si .i64 Y3])->wV H 5 (spO c') 0->gj SpB Y1 (.tup [.si .i64 Y2,.si .i64 Y3]) u H n:=fun h1 h2 h3=>⟨_,_,.told h2,h1,h3⟩
 conv=>whnf
 refine Ask.mk _ (aY (m:=c1.m) (g:=gE) (k:=k) bN ow rfl rfl rfl qh g1) ?_
 conv=>whnf
 refine⟨4,aK A1,aK A2,p1,e.S,e.L,_,rfl,by decide,by decide,rfl,congrArg (fun x=>some (AO.sep (aI x))) q1,⟨rfl,hlast.symm⟩,?_⟩
 conv=>whnf
 refine ag.dec (fun z2=>?_) (fun z2=>?_)
 focus
  rw[if_pos (.inl z2)]at hY;injection hY with e1 e2;injection e2 with e2 e3;subst e1 e2 e3
  conv=>whnf
  exact fin hc1 rfl (bU rfl rfl rfl rfl rfl)
 conv=>whnf
 refine ag.dec (fun z3=>?_) (fun z3=>?_)
 focus
  rw[if_pos (.inr z3)]at hY;injection hY with e1 e2;injection e2 with e2 e3;subst e1 e2 e3
  conv=>whnf
  exact fin hc1 rfl (bU rfl rfl rfl rfl rfl)
 rw[if_neg (fun q=>q.elim z2 z3)]at hY
 conv=>whnf
 refine ag.dec (fun z4=>?_) (fun z4=>?_)
 focus
  conv=>whnf
  refine ag.dec (fun z5=>?_) (fun z5=>?_)
  focus
   rw[if_pos ⟨z4,z5⟩]at hY;injection hY with e1 e2;injection e2 with e2 e3;subst e1 e2 e3
   conv=>whnf
   exact fin hc1 rfl (bU rfl rfl rfl rfl rfl)
  rw[if_neg (fun q=>z5 q.2)]at hY
  conv=>whnf
  refine⟨_,_,_,.cons .same (.cons .same .nil),⟨lv,y,rfl,by rw[<-hP]⟩,?_⟩
  conv=>whnf
  refine ag.dh (fun z6=>?_) (fun z6=>?_)
  focus
   rw[if_pos z6]at hY;injection hY with e1 e2;injection e2 with e2 e3;subst e1 e2 e3
   conv=>whnf
   exact fin hc1 rfl (bU rfl rfl rfl rfl rfl)
  rw[if_neg (fun q=>q z6)]at hY
  conv=>whnf
  refine⟨X,[.ss k,.agg [.si .i64 t,.si .i64 P1],.si .i64 3],W1,.si .i64 W2,_,c1,rfl,by decide,.cons .same (.cons .same (.cons (.told rfl) .nil)),hc1,sM rfl rfl rfl rfl rfl,⟨k,t,P1,3,_,rfl,hP64,hl,hb,hW.symm,rfl,rfl⟩,fun c2 hc2=>?_⟩
  conv=>whnf
  refine ag.dh (fun z7=>?_) (fun z7=>?_)
  focus
   rw[if_pos z7]at hY;injection hY with e1 e2;injection e2 with e2 e3;subst e1 e2 e3
   conv=>whnf
   exact fin hc2 rfl (bU rfl rfl rfl rfl rfl)
  rw[if_neg (fun q=>q z7)]at hY;injection hY with e1 e2;injection e2 with e2 e3;subst e1 e2 e3
  conv=>whnf
  exact fin hc2 rfl (bU rfl rfl rfl rfl rfl)
 rw[if_neg (fun q=>z4 q.1)]at hY
 conv=>whnf
 refine⟨_,_,_,.cons .same (.cons .same .nil),⟨lv,y,rfl,by rw[<-hP]⟩,?_⟩
 conv=>whnf
 refine ag.dh (fun z6=>?_) (fun z6=>?_)
 focus
  rw[if_pos z6]at hY;injection hY with e1 e2;injection e2 with e2 e3;subst e1 e2 e3
  conv=>whnf
  exact fin hc1 rfl (bU rfl rfl rfl rfl rfl)
 rw[if_neg (fun q=>q z6)]at hY
 conv=>whnf
 refine⟨X,[.ss k,.agg [.si .i64 t,.si .i64 P1],.si .i64 3],W1,.si .i64 W2,_,c1,rfl,by decide,.cons .same (.cons .same (.cons (.told rfl) .nil)),hc1,sM rfl rfl rfl rfl rfl,⟨k,t,P1,3,_,rfl,hP64,hl,hb,hW.symm,rfl,rfl⟩,fun c2 hc2=>?_⟩
 conv=>whnf
 refine ag.dh (fun z7=>?_) (fun z7=>?_)
 focus
  rw[if_pos z7]at hY;injection hY with e1 e2;injection e2 with e2 e3;subst e1 e2 e3
  conv=>whnf
  exact fin hc2 rfl (bU rfl rfl rfl rfl rfl)
 rw[if_neg (fun q=>q z7)]at hY;injection hY with e1 e2;injection e2 with e2 e3;subst e1 e2 e3
 conv=>whnf
 exact fin hc2 rfl (bU rfl rfl rfl rfl rfl)
theorem MP:ai 19 (dS 5 SpB QH):=gx Pu 6 (by kernel_rfl) SpB rfl (by decide) fun X cs X' u ⟨k,t,y,Y,h1,h2,h3,h4,h5,h6⟩=>by
 subst h1 h5 h6;exact⟨rfl,rfl,fun c hc=>EL X k t y c hc h2 h3 h4⟩
def QI (f g:List AV->AH->Nat->PK->Prop) (args:List AV) (H:AH) (n:Nat) (κ:PK):Prop:=f args H n κ∨g args H n κ
theorem ai.or {f:FuncId} {r s:List AV->AH->Nat->PK->Prop} (h1:ai f r) (h2:ai f s):ai f (QI r s):=fun args H n κ hs=>hs.elim (h1 args H n κ) (h2 args H n κ)
def U8 (cs:List AV) (v:AV):Prop:=cs=[.nil]/\v= .nil
theorem Pv:ai 58 (aZ U8):=fH (an Gi 4 _) (by kernel_rfl) fun cs v ⟨h1,h2⟩=>by
 subst h1 h2;refine⟨rfl,rfl,?_⟩
 conv=>whnf
 exact cF.told rfl
theorem Td {H:AH} {n j:Nat} {c:SpC} {Q:HP} {u v:AV} (hj:5<=j) (h0:H.get 0=some (.cells [.map 1,aQ c.px,aQ c.pg] true)) (h1:H.get 1=some (c.m.O kT gE)) (h2:H.get 2=some (.sep (IxB.Q c.x c.px))) (h3:H.get 3=some (.sep (GrB.Q c.g c.pg))) (h4:H.get 4=some (.sep (aI (aK c.m.A)))) (h5:H.get j=some (.sep Q)) (hv:ah H 6 (fun b=>if b=5 then j else b) u v):Cov 5 (mkE [(0,u)]) H n (mkE [(0,v)],mkH (bH (spO c++ [.sep Q]) 0),6):=by
 have hk:∀b,b<5->(if b=5 then j else b)=b:=fun b hb=>if_neg (by omega)
 refine Cov.ofR (fun b=>if b=5 then j else b) (by decide) hk (fun x hx=>?_) (fun x hx=>?_) (fun x hx y hy e=>?_)
 ·simp only[List.mem_cons,List.not_mem_nil,or_false]at hx;subst hx;exact hv
 ·simp only[bH,spO,List.cons_append,List.nil_append,List.mem_cons,List.not_mem_nil,or_false]at hx;rcases hx with rfl|rfl|rfl|rfl|rfl|rfl
  ·exact⟨Nat.le_of_ble_eq_true rfl,.inl ⟨_,h0,au.b9 (k:=2) rfl (by decide) (fun b hb=>hk b (by omega))⟩⟩
  ·exact⟨Nat.le_of_ble_eq_true rfl,.inl ⟨_,h1,au.b9 (k:=0) (bg dw tz) (by decide) (fun b hb=>absurd hb (Nat.not_lt_zero b))⟩⟩
  ·exact⟨Nat.le_of_ble_eq_true rfl,.inl ⟨_,h2,au.sep _⟩⟩
  ·exact⟨Nat.le_of_ble_eq_true rfl,.inl ⟨_,h3,au.sep _⟩⟩
  ·exact⟨Nat.le_of_ble_eq_true rfl,.inl ⟨_,h4,au.sep _⟩⟩
  ·exact⟨Nat.le_of_ble_eq_true rfl,.inl ⟨_,h5,au.sep _⟩⟩
 ·simp only[bH,spO,List.cons_append,List.nil_append,List.mem_cons,List.not_mem_nil,or_false]at hx hy;rcases hx with rfl|rfl|rfl|rfl|rfl|rfl<;>rcases hy with rfl|rfl|rfl|rfl|rfl|rfl<;>simp at e⊢<;>omega
theorem Pw {X:SpV} {c:SpC} {u v:AV} {H:AH} {n:Nat} {P:AV->List AO->Prop} (hP:P v []) (hv:iH v=true) (h:gj SpB X v u H n):Sq SpB 5 X P u H n:=by
 obtain⟨H2,c',g1,g2,g3⟩:=h;refine⟨v,[],c',hP,g2,(kH (r:=fun b=>b) hv).2,fun o ho=>(by cases ho),by decide,?_⟩;rw[List.append_nil];intro χ h0 hp ρ hr hf;obtain⟨ψ1,m1,hr3,hu3⟩:=g1 χ h0 hp (ρ 0) hr (hf 0 u rfl);obtain⟨ψ2,m2,hr4⟩:=Ej hr3 g3 (by rw[SpB.len];exact Nat.le_refl _);refine⟨ψ2,⟨fun y q hy e=>m2.1 y q hy (m1.b y q e),fun q e=>m2.2.1 q (m1.z q e),fun q e=>m1.y q (m2.2.2 q e)⟩,hr4,fun t a ht=>?_⟩;have:=mO ht;simp only[List.mem_cons,List.not_mem_nil,or_false]at this;injection this with e1 e2;subst e1 e2;exact oP m2.2.1 hv hu3
def Wd (o:Option iK) (v:AV) (E:List AO):Prop:=match o with
 |none=>v= .nil/\E=[]
 |some e=>∃p,v=aQ p/\E=[.sep (cD p e.S e.L)]
def U9 (X:SpV) (cs:List AV) (X':SpV) (P:AV->List AO->Prop):Prop:=∃k,cs=[.ss k]/\X'=X/\P=Wd (X.K k)
noncomputable def We:FuncId->EP:=aV 16 [] (aw 58 (QI (aZ U8) Mz) evP)
theorem Px:aW We:=aq (ae az (Pv.or MA)) (by kernel_rfl) (by kernel_rfl)
theorem EM:ai 16 (L3 5 SpB U9):=L4 (an Px 5 _) (by kernel_rfl) SpB rfl (by decide) fun X cs X' P ⟨k,h1,h2,h3⟩=>by
 subst h1 h2 h3;refine⟨rfl,fun c hc=>?_⟩;cases hK:X'.K k with
 |none=>
  have g1:=hc.no1 hK
  conv=>whnf
  refine Ask.mk _ (aY (m:=c.m) (g:=gE) (k:=k) bN ow rfl rfl rfl qh g1) ?_
  conv=>whnf
  refine .inl ⟨_,_,_,.cons .same .nil,⟨rfl,rfl⟩,?_⟩
  conv=>whnf
  exact Pw (c:=c) (v:= .nil) ⟨rfl,rfl⟩ rfl ⟨_,c,.told rfl,hc,bU rfl rfl rfl rfl rfl⟩
 |some e=>
  obtain⟨p1,A1,A2,g1,a1,u1,q1⟩:=hc.at1 hK
  conv=>whnf
  refine Ask.mk _ (aY (m:=c.m) (g:=gE) (k:=k) bN ow rfl rfl rfl qh g1) ?_
  conv=>whnf
  refine .inr ⟨4,aK A1,aK A2,p1,e.S,e.L,rfl,by decide,by decide,rfl,congrArg (fun x=>some (AO.sep (aI x))) q1,fun p2=>?_⟩
  conv=>whnf
  refine⟨aQ p2,[.sep (cD p2 e.S e.L)],c,⟨p2,rfl,rfl⟩,hc,rfl,fun o ho=>?_,Nat.le_of_ble_eq_true rfl,Td (j:=6) (by decide) rfl rfl rfl rfl rfl rfl (ah.aQ rfl)⟩;simp only[List.mem_cons,List.not_mem_nil,or_false]at ho;subst ho;exact⟨rfl,rfl⟩
def Va (o:Option iK):AV:=match o with
 |none=> .tup [.agg [.int .i64 0,.int .i64 0,.int .i64 0,.nsl],.sb false]
 |some e=> .tup [wX e.z e.S.ret e.S.pol e.lab,.sb true]
def Vb (X:SpV) (cs:List AV) (v:AV):Prop:=∃k,cs=[.ss k]/\v=Va (X.K k)
def Py:DT:=[(4,[(some 0,[6]),(some 0,[25]),(some 0,[6]),(some 0,[27]),(none,[28]),(some 1,[6]),(some 2,[30]),(none,[31]),(some 4,[0]),(some 5,[33]),(some 6,[34]),(some 7,[35]),(some 8,[1]),(none,[36,37]),(some 0,[26,29,32,38]),(none,[4,39])])]
noncomputable def Wg:FuncId->EP:=aV 35 Py (cT 84 (dI 4 IxB IM) (cT 87 (dI 4 IxB UI) (cT 85 (mi Se) (cT 86 (mi Sf) evP))))
theorem Pz:aW Wg:=aq (a8 (a8 (a8 (a8 az UU (zT _)) UT (zT _)) OU (Eo _ _ _)) rq (Eo _ _ _)) (by kernel_rfl) (by kernel_rfl)
theorem CK:ai 35 (dI 5 SpB Vb):=(gx Pz 5 (by kernel_rfl) SpB rfl (by decide) fun X cs X' v ⟨h0,k,h1,h2⟩=>by
 subst h0 h1 h2;refine⟨rfl,by cases X'.K k<;>rfl,fun c hc=>?_⟩;have hh:=hc.has k;have hi:=hc.I k;cases hK:X'.K k with
 |none=>
  rw[hK]at hh
  conv=>whnf
  refine⟨2,c.px,c.x,[.ss k],.sb false,rfl,by decide,by decide,.cons .same .nil,rfl,rfl,⟨k,rfl,congrArg AV.sb hh.symm⟩,?_⟩
  conv=>whnf
  refine ag.nsb (fun z=>?_) (fun z=>?_)
  focus
   conv=>whnf
   exact⟨_,c,.told rfl,hc,bU rfl rfl rfl rfl rfl⟩
  cases z
 |some e=>
  rw[hK]at hh hi;obtain⟨p1,A1,A2,g1,a1,u1,q1⟩:=hc.at1 hK
  conv=>whnf
  refine⟨2,c.px,c.x,[.ss k],.sb true,rfl,by decide,by decide,.cons .same .nil,rfl,rfl,⟨k,rfl,congrArg AV.sb hh.symm⟩,?_⟩
  conv=>whnf
  refine ag.nsb (fun z=>?_) (fun z=>?_)
  focus
   cases z
  conv=>whnf
  refine Ask.mk _ (aY (m:=c.m) (g:=gE) (k:=k) bN ow rfl rfl rfl qh g1) ?_
  conv=>whnf
  refine⟨4,aK A1,aK A2,p1,e.S,e.L,_,rfl,by decide,by decide,rfl,congrArg (fun x=>some (AO.sep (aI x))) q1,⟨rfl,rfl⟩,?_⟩
  conv=>whnf
  refine⟨4,aK A1,aK A2,p1,e.S,e.L,_,rfl,by decide,by decide,rfl,congrArg (fun x=>some (AO.sep (aI x))) q1,⟨rfl,rfl⟩,?_⟩
  conv=>whnf
  refine⟨2,c.px,c.x,[.ss k],gL e.lab,rfl,by decide,by decide,.cons .same .nil,rfl,rfl,⟨k,rfl,by rw[hi];rfl⟩,?_⟩
  conv=>whnf
  exact⟨_,c,.told rfl,hc,bU rfl rfl rfl rfl rfl⟩).ol
theorem Cov.hole {p n:Nat} {σ:AE} {H:AH} {s:AE×AH×Nat} (h:Cov p σ (H.set (some (.sep .emp)) aa n) (n+1) s):Cov p σ H n s:=fun φ h0 hp ρ hr hf=>by
 obtain⟨ψ,l,hr2⟩:=hr.hole;obtain⟨χ,c1,c4,c5⟩:=h ψ h0 hp ρ hr2 (fun t a ht=>VR.mono l _ _ (hf t a ht));exact⟨χ,⟨fun b q hb e=>c1.1 b q hb (l.b b q e),fun q e=>c1.2.1 q (l.z q e),fun q e=>l.y q (c1.2.2 q e)⟩,c4,c5⟩
def oB:SpV:=⟨fun _=>none,fun _=>none,0⟩
theorem PA (px pg:Nat×Nat):cg oB ⟨MpC.no,⟨[],0⟩,px,[],pg⟩:=⟨MpC.Cw,.nil,.nil,by decide,Nat.le_refl _,Nat.le_refl _,Nat.le_refl _,Nat.le_refl _,fun _=>rfl,fun _=>rfl,fun _=>rfl,fun _ h=>(by cases h),fun _ _ h=>(by cases h),fun _ _ h=>(by cases h),fun _ _ h=>(by cases h)⟩
noncomputable def Wi:FuncId->EP:=aV 9 [] (aw 51 (vY 4 IxB fun cs y=>cs=[]/\y=⟨[],0⟩) (aw 52 (vY 2 GrB fun cs y=>cs=[]/\y=[]) evP))
theorem PB:aW Wi:=aq (ae (ae az O3) OX) (by kernel_rfl) (by kernel_rfl)
def Vc (b:Nat):Nat:=if b=0 then 9 else if b=1 then 0 else if b=2 then 1 else if b=3 then 6 else if b=4 then 10 else b+100
theorem PC:ai 9 (vY 5 SpB fun cs y=>cs=[]/\y=oB):=L5 (an PB 5 _) (by kernel_rfl) SpB rfl (by decide) fun cs y ⟨h1,h2⟩=>by
 subst h1 h2;refine⟨rfl,?_⟩
 conv=>whnf
 refine⟨[],⟨[],0⟩,_,by decide,.nil,rfl,⟨rfl,rfl⟩,fun p1=>?_⟩
 conv=>whnf
 refine⟨[],[],_,by decide,.nil,rfl,⟨rfl,rfl⟩,fun p2=>?_⟩
 conv=>whnf
 refine⟨⟨MpC.no,⟨[],0⟩,p1,[],p2⟩,PA p1 p2,Cov.hole (Cov.ofR Vc (Nat.zero_le _) (fun b hb=>absurd hb (Nat.not_lt_zero b)) (fun x hx=>?_) (fun x hx=>?_) (fun x hx y hy e=>?_))⟩
 ·simp only[List.mem_cons,List.not_mem_nil,or_false]at hx;subst hx;exact .ptr (by decide) rfl
 ·simp only[bH,spO,SpB,List.mem_cons,List.not_mem_nil,or_false]at hx;rcases hx with rfl|rfl|rfl|rfl|rfl
  ·refine⟨Nat.le_of_ble_eq_true rfl,.inl ⟨_,rfl,.cells (Nat.le_refl _) id fun i a' hi=>?_⟩⟩
   match i,hi with
   |0,hi=>injection hi with hi;subst hi;exact⟨_,rfl,.map (by decide) rfl⟩
   |1,hi=>injection hi with hi;subst hi;exact⟨_,rfl,.aQ rfl⟩
   |2,hi=>injection hi with hi;subst hi;exact⟨_,rfl,.aQ rfl⟩
   |i+3,hi=>simp at hi
  ·exact⟨Nat.le_of_ble_eq_true rfl,.inl ⟨_,rfl,.Mb⟩⟩
  ·exact⟨Nat.le_of_ble_eq_true rfl,.inl ⟨_,rfl,au.sep _⟩⟩
  ·exact⟨Nat.le_of_ble_eq_true rfl,.inl ⟨_,rfl,au.sep _⟩⟩
  ·exact⟨Nat.le_of_ble_eq_true rfl,.inl ⟨_,rfl,au.sep _⟩⟩
 ·simp only[bH,spO,SpB,List.mem_cons,List.not_mem_nil,or_false]at hx hy;rcases hx with rfl|rfl|rfl|rfl|rfl<;>rcases hy with rfl|rfl|rfl|rfl|rfl<;>simp[Vc]at e⊢
theorem Re.Kp {H H2:AH} {n:Nat} {a a' c c':AV} (h:Re H n a H2 a') (e:mkT c=mkT c'):Re H n (.tup [a,c]) H2 (.tup [a',c']):=fun φ h0 hp w hr hv=>by
 obtain⟨cs,rfl,h1⟩:=hv.eQ;obtain⟨x,y,rfl,h2,h3⟩:=vs2 h1;obtain⟨ψ,l,hr2,h4⟩:=h φ h0 hp x hr h2;exact⟨ψ,l,hr2,.tup (.cons h4 (.cons (VR.mono l _ _ (Gl (e▸h3.mkT))) .nil))⟩
theorem Re.slK {H:AH} {n b m c k:Nat} {l s:List AV} {z:Bool} (hk:k≠0) (hc:m<=c) (hb:H.get b=some (.cells l z)) (hs:s.all flat.flat1=true) (hsl:s.length=m*k) (hmk:l.map mk=s.map mk):Re H n (.sl b 0 m c k) (H.set none aa b) (.fr m k s):=fun φ h0 h w hr hv=>by
 refine Re.row (x:=0) hb hs hsl hmk (by decide) φ h0 h w hr ?_;obtain⟨p,C,h4,rfl,h2,h3⟩:=hv.eo;obtain⟨h5,h6⟩:=h3 hk;exact .rw h4 (fun _=>rfl) (Nat.le_add_right _ _) (by omega) (by omega)
def MQ:AV:= .agg [.int .i64 0,.int .i64 100,.bool false,.int .i64 0,.int .i64 0,.int .i64 0,.int .i64 0,.bool false,.nsl,.bool false,.int .i64 0,.int .i64 0]
def few (L:Smp):Prop:=L=[]∨∃t x,L=[(t,x)]/\0<=t/\t<=100
def Vd (cs:List AV) (v:AV):Prop:=∃L,few L/\cs=[.fr L.length 2 (smp L),MQ]/\v= .tup [.fr L.length 2 (smp L),.si .i64 0]
noncomputable def kTl:FuncId->EP:=aV 103 [] evP
theorem Te:aW kTl:=aq az (by kernel_rfl) (by kernel_rfl)
theorem PD:ai 103 (aZ Vd):=fH (an Te 4 _) (by kernel_rfl) fun cs v ⟨L,h0,h1,h2⟩=>by
 subst h1 h2;refine⟨rfl,rfl,?_⟩;rcases h0 with rfl|⟨t,x,rfl,ht1,ht2⟩
 ·conv=>whnf
  refine aS.roll 1 ?_
  conv=>whnf
  refine ag.dec (fun z=>absurd z (by decide)) (fun z=>?_)
  conv=>whnf
  exact⟨_,.Kp .nsl rfl⟩
 ·conv=>whnf
  refine aS.roll 2 ?_
  conv=>whnf
  refine ag.dec (fun z=>?_) (fun z=>absurd (show(0:Int)<((1:Nat):Int) by decide) z)
  conv=>whnf
  refine Idx.mk 0 rfl Nat.zero_lt_one ?_
  conv=>whnf
  refine ag.dec (fun z=>absurd z (by show¬t<0;omega)) (fun z=>?_)
  conv=>whnf
  refine ag.dec (fun z=>absurd z (by show¬100<t;omega)) (fun z=>?_)
  conv=>whnf
  refine aS.roll 1 ?_
  conv=>whnf
  refine ag.dec (fun z=>absurd (show IntKind.i64.wrap (0+1)<((1:Nat):Int) from z) (by rw[al (by decide) (by decide)];decide)) (fun z=>?_)
  conv=>whnf
  refine⟨_,.Kp (Re.slK (b:=6) (m:=1) (c:=1) (k:=2) (z:=true) (l:=[.si .i64 t,.si .i64 x]) (s:=smp [(t,x)]) (by decide) (by decide) ?_ rfl rfl rfl) rfl⟩;exact rfl
def q0:AV:= .agg [.int .i64 0,.int .i64 0,.bool false,.int .i64 0,.int .i64 0,.int .i64 0,.int .i64 0,.bool false,.nsl,.bool false,.int .i64 0,.int .i64 0]
def CL (X:SpV) (cs:List AV) (v:AV):Prop:=∃k,(cs=[.ss k,q0]/\X.K k=none/\v= .tup [.nsl,.si .i64 5])∨∃e,cs=[.ss k,MQ]/\X.K k=some e/\few (bX 0 1099511627776 e.L)/\v= .tup [.fr (bX 0 1099511627776 e.L).length 2 (smp (bX 0 1099511627776 e.L)),.si .i64 0]
noncomputable def Wj:FuncId->EP:=aV 45 [(5,[(some 1000000,[7,8]),(none,[0,1,2,3,4,5,6,7,8,9,10,11,12,13]),(none,[0,1,2,3,4,5,6,8,7,9,10,11,12,13])])] (aw 84 (dI 4 IxB IM) (cT 21 (tB Eh) (aw 103 (aZ Vd) evP)))
theorem PE:aW Wj:=aq (ae (a8 (ae az PD) ML (EJ _)) rq) (by kernel_rfl) (by kernel_rfl)
theorem MS:ai 45 (dI 5 SpB CL):=(gx PE 5 (by kernel_rfl) SpB rfl (by decide) fun X cs X' v ⟨h0,k,h⟩=>by
 subst h0;rcases h with⟨h1,hK,h2⟩|⟨e,h1,hK,h3,h2⟩
 ·subst h1 h2;refine⟨rfl,rfl,fun c hc=>?_⟩;have hh:=hc.has k;rw[hK]at hh
  conv=>whnf
  refine⟨2,c.px,c.x,[.ss k],.sb false,rfl,by decide,by decide,.cons .same .nil,rfl,rfl,⟨k,rfl,congrArg AV.sb hh.symm⟩,?_⟩
  conv=>whnf
  refine ag.nsb (fun z=>?_) (fun z=>?_)
  focus
   conv=>whnf
   exact⟨_,c,.told rfl,hc,bU rfl rfl rfl rfl rfl⟩
  cases z
 ·subst h1 h2;refine⟨rfl,rfl,fun c hc=>?_⟩;have hh:=hc.has k;rw[hK]at hh;obtain⟨p1,A1,A2,g1,a1,u1,q1⟩:=hc.at1 hK
  conv=>whnf
  refine⟨2,c.px,c.x,[.ss k],.sb true,rfl,by decide,by decide,.cons .same .nil,rfl,rfl,⟨k,rfl,congrArg AV.sb hh.symm⟩,?_⟩
  conv=>whnf
  refine ag.nsb (fun z=>?_) (fun z=>?_)
  focus
   cases z
  conv=>whnf
  refine⟨?_,?_,trivial⟩
  all_goals
   conv=>whnf
   refine Ask.mk _ (aY (m:=c.m) (g:=gE) (k:=k) bN ow rfl rfl rfl qh g1) ?_
   conv=>whnf
   refine⟨4,aK A1,aK A2,p1,e.S,e.L,bX 0 1099511627776 e.L,rfl,by decide,by decide,rfl,congrArg (fun x=>some (AO.sep (aI x))) q1,⟨_,_,0,1099511627776,rfl,rfl,rfl,rfl⟩,?_⟩
   conv=>whnf
   refine⟨_,_,_,.cons .same (.cons .same .nil),⟨_,h3,rfl,rfl⟩,?_⟩
   conv=>whnf
   exact⟨_,c,.told rfl,hc,bU rfl rfl rfl rfl rfl⟩).ol
def Ve (cs:List AV) (v:AV):Prop:=∃V W,cs=[.fr V.length 1 (strs V),.fr W.length 1 (strs W)]/\V.length<=1000000/\v= .sb (decide (V=W))
noncomputable def Vf:FuncId->EP:=aV 30 [] evP
theorem PF:aW Vf:=aq az (by kernel_rfl) (by kernel_rfl)
noncomputable def smT (V:List (List Nat)) (W:List (List Nat)) (i:Nat):AE×AH:=(mkE [(0,.fr V.length 1 (strs V)),(1,.fr W.length 1 (strs W)),(5,.si .i64 (i))],mkH [])
theorem GU {V:List (List Nat)} {W:List (List Nat)} {i:Nat} {p n:Nat} {σ:AE} {H:AH} (hp:p<=0) (e0:ak (pa 0) σ= .fr V.length 1 (strs V)) (e1:ak (pa 1) σ= .fr W.length 1 (strs W)) (e5:mk (ak (pa 5) σ)= .si .i64 (i)):Cov p σ H n ((smT V W i).1,(smT V W i).2,0):=
 Cov.ofA hp ⟨ah.frE e0,ah.frE e1,.int e5,trivial⟩ trivial rfl
theorem PH (V W:List Tx) (hV:V.length<=1000000):ax Vf 3 30 [.fr V.length 1 (strs V),.fr W.length 1 (strs W)] .nil 0 (cF (.sb (decide (V=W)))):=by
 conv=>whnf
 refine ag.dh (fun h1=>?_) (fun h1=>?_)
 ·have h2:decide (V=W)=false:=decide_eq_false fun e=>h1 (by subst e;rfl)
  rw[h2]
  conv=>whnf
  exact cF.told rfl
 ·have hl:V.length=W.length:=Int.ofNat_inj.1 h1
  conv=>whnf
  refine aS.mk {i:Nat//i<=V.length/\V.take i=W.take i} 0 (fun i=>smT V W i.val) (fun i=>V.length-i.val) ⟨0,Nat.zero_le _,rfl⟩ ?_ ?_
  ·exact GU (i:=0) (Nat.le_refl 0) rfl rfl rfl
  ·intro⟨i,hi,he⟩
   conv=>whnf
   refine ag.dec (fun h3=>?_) (fun h3=>?_)
   ·have h4:i<V.length:=Int.ofNat_lt.1 h3;have h5:i<W.length:=hl▸h4;have hlt:V.length-(i+1)<V.length-i:=by omega
    have hw:IntKind.i64.wrap ((i:Int)+1)=((i+1:Nat):Int):=by rw[al (by omega) (by omega)];omega
    have hsn:V[i]=W[i]->V.take (i+1)=W.take (i+1):=fun e=>by rw[List.take_succ_eq_append_getElem h4,List.take_succ_eq_append_getElem h5,he,e]
    have hne:¬V[i]=W[i]->decide (V=W)=false:=fun q=>decide_eq_false fun e=>q (by subst e;rfl)
    conv=>whnf
    refine Idx.mk i rfl h4 ?_
    conv=>whnf
    refine ay (fI h4 (Nat.mul_one _)) ?_
    conv=>whnf
    refine Idx.mk i rfl h5 ?_
    conv=>whnf
    refine ay (fI h5 (Nat.mul_one _)) ?_
    conv=>whnf
    refine ag.nsb (fun h6=>?_) (fun h6=>?_)
    ·have:=hne fun e=>by rw[bt.2 e]at h6;cases h6
     conv=>whnf
     exact⟨_,.told (congrArg AV.sb this.symm)⟩
    ·have:=hsn (bt.1 h6)
     conv=>whnf
     exact⟨⟨i+1,h4,this⟩,hlt,GU (Nat.le_refl 0) rfl rfl (congrArg (AV.si .i64) hw)⟩
   ·have h4:i=V.length:=by have:¬(i:Int)<(V.length:Int):=h3;omega
    have h5:decide (V=W)=true:=decide_eq_true (by rw[h4,List.take_length,hl,List.take_length]at he;exact he)
    conv=>whnf
    exact⟨_,.told (congrArg AV.sb h5.symm)⟩
theorem Wk:ai 30 (aZ Ve):=pv PF 3 (by kernel_rfl) fun cs v ⟨V,W,h1,h2,h3⟩=>by
 subst h1 h3;exact⟨rfl,rfl,PH V W h2⟩
section
variable {φ:Ph} {H H2:AH} {n:Nat} {h0 h:Hp}
theorem HR.PI (hr:HR φ H n h0 h) {c b i m k:Nat} {lc l s:List AV} {zc z:Bool} (hc:H.get c=some (.cells lc zc)) (hi:lc[i]?=some (.sl b 0 m m 0)) (hb:H.get b=some (.cells l z)) (hcb:c≠b) (hb9:b<1000000) (hs:s.all flat.flat1=true) (hsl:s.length=m*k) (hmk:l.map Go.Proofs.YtflehenfikoniaaGreat.mk=s.map Go.Proofs.YtflehenfikoniaaGreat.mk):
 ∃χ,PLe φ χ/\HR χ ((H.set none aa b).set (some (.cells (lc.set i (.fr m k s)) zc)) aa c) n h0 h:=by
 have hi2:=(List.getElem?_eq_some_iff.1 hi).1;rcases hr.live c _ hc with⟨_,hv⟩|⟨p,ob,h1,h2,h3,h4⟩
 ·cases lc with
  |nil=>cases hi2
  |cons _ _=>cases hv
 obtain⟨cc,t,fz,rfl,o1,o2,o3,o4,o5⟩:=h4;obtain⟨v1,g1,g2⟩:=o5 i _ hi;obtain⟨χ,k1,k2,k3⟩:=Re.sl hb hs hsl hmk φ h0 h v1 hr g2;have hc2:(H.set none aa b).get c=some (.cells lc zc):=PM.gne (by omega) hcb hc
 refine⟨χ,k1,k2.Qh hc2 rfl rfl (fun q=>by cases lc with
  |nil=>cases hi2
  |cons _ _=>cases q) fun p' ob' e1 e2 ⟨cc',t',fz',q1,q2,q3,q4,q5,q6⟩=>⟨cc',t',fz',q1,by rw[List.length_set];exact q2,q3,q4,q5,fun j a' hj=>?_⟩⟩
 have:p'=p:=by have:=k1.b c p h1;rw[e1]at this;injection this
 subst this;rw[h3]at e2;injection e2 with e2;rw[q1]at e2;injection e2 with e2;subst e2;by_cases q:i=j
 ·subst q;rw[List.getElem?_set_self hi2]at hj;injection hj with hj;subst hj;exact⟨v1,g1,k3⟩
 ·rw[List.getElem?_set_ne q]at hj;exact q6 j a' hj
theorem Cov.pre {p:Nat} {σ:AE} {s:AE×AH×Nat} (h:∀φ h0 h,HR φ H n h0 h->∃ψ,PLe φ ψ/\HR ψ H2 n h0 h) (hc:Cov p σ H2 n s):Cov p σ H n s:=fun φ h0 hp ρ hr hf=>by
 obtain⟨ψ,l,hr2⟩:=h φ h0 hp hr;obtain⟨χ,c1,c4,c5⟩:=hc ψ h0 hp ρ hr2 (fun t a ht=>VR.mono l _ _ (hf t a ht));exact⟨χ,⟨fun b q hb e=>c1.1 b q hb (l.b b q e),fun q e=>c1.2.1 q (l.z q e),fun q e=>l.y q (c1.2.2 q e)⟩,c4,c5⟩
end
abbrev rK:Rl:=⟨[97],[98],1,10,0⟩
abbrev m7:List Lab:=[([120],[49])]
def stV (a b:iK) (q:Bool) (n:Nat):SpV:=⟨fun x=>if x=[98]then some b else if x=[97]then some a else none,fun d=>if d=[98]then(if q=true then some rK else none)else none,n⟩
section
variable {a b e:iK} {q:Bool} {n:Nat}
theorem QJ:gW (stV a b q n) [97] e=stV e b q n:=by
 unfold gW stV;congr 1;funext x;by_cases h:x=[97]
 ·subst h;rfl
 ·(try simp only[if_neg h])
theorem QK:gW (stV a b q n) [98] e=stV a e q n:=by
 unfold gW stV;congr 1;funext x;by_cases h:x=[98]
 ·subst h;rfl
 ·(try simp only[if_neg h])
theorem QL {c:Bool} {m:Nat}:({I0 (stV a b q n) [98] (if c=true then some rK else none)with n:=m}:SpV)=stV a b c m:=by
 have e:(fun x=>if x=[98]then(if c=true then some rK else none)else(stV a b q n).R x)=(stV a b c m).R:=funext fun x=>by
  unfold stV;by_cases h:x=[98]
  ·(try simp only[if_pos h])
  ·(try simp only[if_neg h])
 show(⟨(stV a b q n).K,(fun x=>if x=[98]then(if c=true then some rK else none)else(stV a b q n).R x),m⟩:SpV)=_;rw[e];rfl
theorem ye (t:Int):cw (stV a b q n) rK t=stV a {b with S:=(ik rK t a b).1,L:=(ik rK t a b).2} q n:=QK
def gV (q:Bool):Gr:=if q=true then [([98],rK)]else []
theorem GV:((gV q).map Prod.fst).Nodup:=by cases q<;>simp[gV]
theorem Ab (k:Tx):aJ (gV q) k=(stV a b q n).R k:=by
 cases q
 ·show aJ [] k=_;unfold stV;by_cases h:k=[98]<;>simp[h,aJ,fP]
 ·show aJ [([98],rK)] k=_;unfold stV;by_cases h:k=[98]<;>simp[h,aJ,fP]
theorem QM (x:Tx):aG [x]=[x]:=sx (bd _).1 (List.pairwise_singleton _ _) fun y=>by rw[(bd _).2]
theorem MT:aG []=[]:=sx (bd _).1 .nil fun y=>by rw[(bd _).2]
theorem Tf (k:Tx):ofX (stV a b q n) k=if q=true/\k=[97]then [rK]else []:=by
 have h:=mj (f:=(stV a b q n).R) (A:=gV q) GV Ab;have e:ofX (stV a b q n) k=ofG (gV q) k:=zV h.1 GV (fun d=>by rw[h.2,Ab (a:=a) (b:=b) (n:=n)]) (fun r=>decide (r.src=k));rw[e];cases q
 ·show pkF [] _=_;unfold pkF;simp[MT]
 ·show pkF [([98],rK)] _=_;unfold pkF;by_cases hk:k=[97]
  ·subst hk;simp[QM,pkS,rul,aJ,fP]
  ·have:¬[97]=k:=fun e=>hk e.symm
   simp[hk,this,MT]
theorem Vg:ED (stV a b q n)=if q=true then [rK]else []:=by
 have h:=mj (f:=(stV a b q n).R) (A:=gV q) GV Ab;have e:ED (stV a b q n)=Mm (gV q):=zV h.1 GV (fun d=>by rw[h.2,Ab (a:=a) (b:=b) (n:=n)]) (fun _=>true);rw[e];cases q
 ·show pkF [] _=_;unfold pkF;simp[MT]
 ·show pkF [([98],rK)] _=_;unfold pkF;simp[QM,pkS,rul,aJ,fP]
theorem Tg:yd (stV a b q n)=[[97],[98]]:=by
 have nd:(([([97],a),([98],b)]:List (Tx×iK)).map Prod.fst).Nodup:=by simp
 have hg:∀k,aJ ([([97],a),([98],b)]:List (Tx×iK)) k=(stV a b q n).K k:=fun k=>by
  unfold stV;by_cases h1:k=[98]
  ·subst h1;rfl
  ·by_cases h2:k=[97]
   ·subst h2;rfl
   ·simp[h1,h2,aJ,fP]
 have h:=mj nd hg;refine sx (bd _).1 ?_ fun y=>?_
 ·refine .cons (fun y hy=>?_) (List.pairwise_singleton _ _);rw[List.mem_singleton]at hy;subst hy;kernel_rfl
 ·show y∈aG _<->_;rw[(bd _).2];constructor
  ·intro hy;obtain⟨⟨k,e⟩,h1,rfl⟩:=List.mem_map.1 hy;rw[ry h.1,h.2]at h1;unfold stV at h1;by_cases q1:k=[98]
   ·simp[q1]
   ·by_cases q2:k=[97]
    ·simp[q2]
    ·simp[q1,q2]at h1
  ·intro hy
   have:∃e,(stV a b q n).K y=some e:=by
    simp only[List.mem_cons,List.not_mem_nil,or_false]at hy;rcases hy with rfl|rfl
    ·exact⟨a,rfl⟩
    ·exact⟨b,rfl⟩
   obtain⟨e,he⟩:=this;exact List.mem_map.2 ⟨(y,e),cW (by rw[h.2];exact he),rfl⟩
theorem wH:Links (stV a b q n):=fun d r h=>by
 unfold stV at h;dsimp only at h;split at h
 ·split at h
  ·injection h with h;subst h;rename_i h1 _;subst h1;exact⟨rfl,rfl⟩
  ·cases h
 ·cases h
theorem Ja {m:Nat} (h1:a.L.length<=m) (h2:b.L.length<=m):Bnd (stV a b q n) m:=fun k e h=>by
 unfold stV at h;dsimp only at h;split at h
 ·injection h with h;subst h;exact h2
 ·split at h
  ·injection h with h;subst h;exact h1
  ·cases h
end
abbrev sK (m:Int):Sr:=⟨128,0,1,m,0⟩
abbrev eK (m:Int) (L:Smp):iK:=⟨sK m,L,128,m7⟩
abbrev eZ:iK:=eK (-1) []
theorem MU:(im [97]&&dO m7)=true:=by kernel_rfl
theorem PJ:(im [98]&&dO m7)=true:=by kernel_rfl
theorem MV:dJ m7=m7:=by kernel_rfl
theorem EN:oZ 128 0 1=some (sK (-1)):=if_pos (by decide)
theorem Vh:crF oB [97] 128 0 1 m7=(crK oB [97] eZ,0):=by
 unfold crF;rw[EN];dsimp only;rw[if_pos MU,MV];exact if_neg (by simp[oB])
theorem Th:crK (crK oB [97] eZ) [98] eZ=stV eZ eZ false 2:=by
 unfold crK stV oB;simp
theorem Vi:crF (crK oB [97] eZ) [98] 128 0 1 m7=(stV eZ eZ false 2,0):=by
 rw[<-Th];unfold crF;rw[EN];dsimp only;rw[if_pos PJ,MV];exact if_neg (by simp[oB,crK])
theorem Vj:crF (stV eZ eZ false 2) [97] 128 0 1 m7=(stV eZ eZ false 2,6):=by
 unfold crF;rw[EN];dsimp only;rw[if_pos MU];exact if_pos (by simp[stV])
theorem Vk:cX rK=true:=by kernel_rfl
theorem Vl:rlF (stV eZ eZ false 2) rK=(stV eZ eZ true 3,0):=by
 unfold rlF;rw[if_pos Vk,if_pos ⟨rfl,rfl⟩,if_neg (by simp[stV]),Tf,if_neg (by simp[stV])];exact congrArg (·,0) (QL (c:=true) (m:=3))
theorem Vm:lkF (stV eZ eZ false 2) rK=(stV eZ eZ true 3,0):=by
 unfold lkF;rw[Vl,if_neg (by simp)];exact congrArg (·,0) QK
theorem Ti {a b:iK} {n:Nat}:dz (stV a b true n) [97]=0:=rfl
theorem Vn {a b:iK} {n:Nat}:dz (stV a b true n) [98]=10:=rfl
theorem Tj {a b:iK} {n:Nat} {t v p:Int} {S:Sr} {L:Smp} (h:il a.S a.L t v p=((S,L),0)):o8 (stV a b true n) [97] t v p=(fe [97] a.S.mx t (stV {a with S:=S,L:=L} b true n) rK,0):=by
 unfold o8;rw[Ti,if_neg (fun q=>q rfl)];show(if(il a.S a.L t v p).2≠0 then _ else _)=_;rw[h,if_neg (fun q=>q rfl),Tf,if_pos ⟨rfl,rfl⟩];unfold SZ;rw[h,QJ];rfl
theorem Vo:o8 (stV eZ eZ true 3) [97] 1 5 0=(stV (eK 1 [(1,5)]) eZ true 3,0):=by
 rw[Tj (S:=sK 1) (L:=[(1,5)]) (by kernel_rfl)];unfold fe;rw[if_neg (by intro h;exact absurd h.1 (by decide)),ye];rfl
theorem Vp:o8 (stV (eK 1 [(1,5)]) eZ true 3) [97] 5 6 0=(stV (eK 5 [(1,5),(5,6)]) eZ true 3,0):=by
 rw[Tj (S:=sK 5) (L:=[(1,5),(5,6)]) (by kernel_rfl)];unfold fe;rw[if_pos ⟨by decide,by decide⟩,ye,ye];rfl
theorem Wl:I9 (stV (eK 5 [(1,5),(5,6)]) eZ true 3) [97] 12 1=(stV (eK 12 [(1,5),(5,6),(12,7)]) (eK 0 [(0,11)]) true 3,7,0):=by
 have e:o8 (stV (eK 5 [(1,5),(5,6)]) eZ true 3) [97] 12 7 3=(stV (eK 12 [(1,5),(5,6),(12,7)]) (eK 0 [(0,11)]) true 3,0):=by
  rw[Tj (S:=sK 12) (L:=[(1,5),(5,6),(12,7)]) (by kernel_rfl)];unfold fe;rw[if_pos ⟨by decide,by decide⟩,ye,ye];have e1:ik rK 5 (eK 12 [(1,5),(5,6),(12,7)]) eZ=(sK 0,[(0,11)]):=by kernel_rfl
  rw[e1];have e2:ik rK 12 (eK 12 [(1,5),(5,6),(12,7)]) (eK 0 [(0,11)])=(sK 0,[(0,11)]):=by kernel_rfl
  exact congrArg (fun z:Sr×Smp=>((stV (eK 12 [(1,5),(5,6),(12,7)]) ⟨z.1,z.2,128,m7⟩ true 3,0):SpV×Int)) e2
 unfold I9;rw[Ti,if_neg (fun q=>q rfl)];have e2:m6 (vAt [(1,5),(5,6)] (List.length [(1,5),((5,6):Int×Int)]-1)) 1=(7,0):=by kernel_rfl
 show(if(12:Int)<0∨1099511627776<=(12:Int)then _ else _)=_;rw[if_neg (by decide),if_neg (by decide),e2,if_neg (fun q=>q rfl),e,if_neg (fun q=>q rfl)]
theorem Vq:o8 (stV (eK 12 [(1,5),(5,6),(12,7)]) (eK 0 [(0,11)]) true 3) [98] 1 5 0=(stV (eK 12 [(1,5),(5,6),(12,7)]) (eK 0 [(0,11)]) true 3,10):=by
 unfold o8;rw[Vn];exact if_pos (by decide)
theorem Wm:I6 (stV (eK 12 [(1,5),(5,6),(12,7)]) (eK 0 [(0,11)]) true 3) [97] 5 5=(stV (eK 12 [(1,5),(12,7)]) (eK 0 [(0,5)]) true 3,1,0):=by
 unfold I6;rw[Ti,if_neg (fun q=>q rfl),Tf,if_pos ⟨rfl,rfl⟩];show(fv (bX 5 5 [(1,5),(5,6),(12,7)]) (gW (stV _ _ true 3) [97] _) rK,_,_)=_;rw[QJ];have e0:bX 5 5 [(1,5),(5,6),(12,7)]=[(5,6)]:=by kernel_rfl
 have e1:aO [(1,5),(5,6),(12,7)] 5 5=[(1,5),(12,7)]:=by kernel_rfl
 have e2:bB rK 5=0:=by kernel_rfl
 have e3:ik rK 0 (eK 12 [(1,5),(12,7)]) (eK 0 [(0,11)])=(sK 0,[(0,5)]):=by kernel_rfl
 show(fv (bX 5 5 [(1,5),(5,6),(12,7)]) (stV ⟨sK 12,aO [(1,5),(5,6),(12,7)] 5 5,128,m7⟩ _ true 3) rK,(((List.length [(1,5),(5,6),((12,7):Int×Int)]-(aO [(1,5),(5,6),(12,7)] 5 5).length:Nat):Int),(0:Int)))=_;rw[e0,e1];unfold fv sR;show((dK rK (-1,_) (5,6)).2,_)=_;unfold dK;rw[if_pos (by rw[e2];decide)];show(cw (stV _ _ true 3) rK (bB rK 5),_,_)=_;rw[e2,ye,e3];rfl
theorem Wn:Pe (stV (eK 12 [(1,5),(12,7)]) (eK 0 [(0,5)]) true 3) [97] [98]=(stV (eK 12 [(1,5),(12,7)]) (eK 0 [(0,5)]) false 3,0):=by
 unfold Pe;show(if rK.src=[97]then _ else _)=_;rw[if_pos rfl];exact congrArg (·,0) (QL (c:=false) (m:=3))
theorem Vr:few (bX 0 1099511627776 []):= .inl rfl
theorem QN:bX 0 1099511627776 [(0,11)]=[(0,11)]:=by kernel_rfl
theorem QO:bX 0 1099511627776 [(0,5)]=[(0,5)]:=by kernel_rfl
def MW (args:List AV) (H:AH) (n:Nat) (κ:PK):Prop:=match args with
 |a::ar=>∃b p X k H1,a=aQ p/\b<n/\n<800000/\Res H n ar H1 [.ss k]/\H1.get b=some (.sep (SpB.Q X p))/\ie H1 5 n=true/\((X.K k=none/\κ .nil (H1.set (some (.sep (SpB.Q X p))) aa b) (n+5))∨∃e,X.K k=some e/\∀p2,κ (aQ p2) ((H1.set (some (.sep (SpB.Q X p))) aa b).set (some (.sep (cD p2 e.S e.L))) aa (n+5)) (n+6))
 |_=>False
theorem Tk:ai 16 MW:=fun args H n κ hs=>by
 unfold MW at hs;split at hs
 ·obtain⟨b,p,X,k,H1,h1,h2,h3,h4,h5,h6,h7⟩:=hs;refine EM _ H n κ ⟨b,p,X,[.ss k],X,_,H1,h1,h2,h3,h4,h5,h6,⟨k,rfl,rfl,rfl⟩,fun v E hE=>?_⟩;rcases h7 with⟨e1,h7⟩|⟨e,e1,h7⟩
  ·rw[e1]at hE;obtain⟨rfl,rfl⟩:=hE;exact h7
  ·rw[e1]at hE;obtain⟨p2,rfl,rfl⟩:=hE;exact h7 p2
 ·exact hs.elim
noncomputable def Vs:FuncId->EP:=aw 9 (vY 5 SpB fun cs y=>cs=[]/\y=oB) (aw 46 (dS 5 SpB S5) (aw 48 (dS 5 SpB U2) (aw 32 (dS 5 SpB rA) (aw 45 (dI 5 SpB CL) (aw 19 (dS 5 SpB QH) (aw 44 (dS 5 SpB GQ) (aw 35 (dI 5 SpB Vb) (aw 49 (dS 5 SpB U0) (aw 12 (dI 5 SpB UZ) (aw 25 (dI 5 SpB UY) (aw 16 MW (aw 57 (rh Qy) (aw 27 (dS 5 SpB S3) (aw 20 (F7 1000000 ni) (aw 30 (aZ Ve) evP)))))))))))))))
theorem PL:aW Vs:=ae (ae (ae (ae (ae (ae (ae (ae (ae (ae (ae (ae (ae (ae (ae (ae az Wk) OI) MK) Si) Tk) MI) IZ) EE) CK) Pt) MP) MS) Pd) MO) EG) PC
noncomputable def Vt:FuncId->EP:=aV 14 [(1000005,[])] Vs
theorem PN:aW Vt:=aq PL (by kernel_rfl) (by kernel_rfl)
theorem Vu:few (bX 0 1099511627776 [(0,11)]):=by rw[QN];exact .inr ⟨0,11,rfl,by decide,by decide⟩
theorem Vv:few (bX 0 1099511627776 [(0,5)]):=by rw[QO];exact .inr ⟨0,5,rfl,by decide,by decide⟩
theorem Vw:AV.tup [.fr 1 2 (smp [(0,11)]),.si .i64 0]= .tup [.fr (bX 0 1099511627776 [(0,11)]).length 2 (smp (bX 0 1099511627776 [(0,11)])),.si .i64 0]:=by rw[QN];rfl
theorem Vx:AV.tup [.fr 1 2 (smp [(0,5)]),.si .i64 0]= .tup [.fr (bX 0 1099511627776 [(0,5)]).length 2 (smp (bX 0 1099511627776 [(0,5)])),.si .i64 0]:=by rw[QO];rfl
theorem Vy:ni [(0,11)] [(0,11)]=true:=by kernel_rfl
theorem Vz:ni [(0,5)] [(0,5)]=true:=by kernel_rfl
theorem GW {X:SpV} {k:Tx}:(oA X k).K k=none:=by
 unfold oA;split
 ·exact if_pos rfl
 ·rename_i h;cases e:X.K k with
  |none=>rfl
  |some y=>rw[e]at h;exact absurd rfl h
theorem PO {X:SpV} {k:Tx} (h:X.K k=none):oA X k=X:=by
 unfold oA;rw[h];rfl
theorem VA {X:SpV} {k:Tx}:oA X k=oA (oA X k) k:=(PO GW).symm
theorem VB {X:SpV} {k:Tx}:AV.sb false= .sb ((oA X k).K k).isSome:=by rw[GW];rfl
noncomputable def knO (w:Nat×Nat):AE×AH:=(mkE [(0,.sb (false)),(1,aQ w),(2,.ptr 7 (0))],mkH [(0,.sep (SpB.Q oB w)),(7,.cells [.int .i64 128,.int .i64 0,.int .i64 1,.fr 1 2 (cJ m7)] true)])
theorem PQ {w:Nat×Nat} {p n:Nat} {σ:AE} {H:AH} (hp:p<=8) (e0:mk (ak (pa 0) σ)= .sb (false)) (e1:ak (pa 1) σ=aQ w) (e2:ak (pa 2) σ= .ptr 7 (0)) (h0:H.get 0=some (.sep (SpB.Q oB w))) (h7:H.get 7=some (.cells [.int .i64 128,.int .i64 0,.int .i64 1,.fr 1 2 (cJ m7)] true)):Cov p σ H n ((knO w).1,(knO w).2,8):=
 Cov.ofA hp ⟨.bool e0,ah.aQ e1,.ptr (by decide) e2,trivial⟩ ⟨.inl ⟨_,h0,au.sep _⟩,.inl ⟨_,h7,au.refl rfl⟩,trivial⟩ rfl
theorem Jb:ax Vt 6 14 [] .nil 0 (fun u _ _=>mkT u=AV.sb true):=by
 conv=>whnf
 refine⟨[],oB,_,by decide,.nil,rfl,⟨rfl,rfl⟩,fun p=>?_⟩
 conv=>whnf
 refine xo.mk Unit 8 (fun _=>knO p) ?_ ?_
 focus
  conv=>whnf
  exact⟨(),Cov.pre (fun φ h0 h hr=>hr.PI (c:=7) (b:=6) (i:=3) (m:=1) (k:=2) (s:=cJ m7) rfl rfl rfl (by decide) (by decide) rfl rfl rfl) (PQ (w:=p) (Nat.zero_le 8) rfl rfl rfl rfl rfl)⟩
 intro _
 conv=>whnf
 refine⟨0,p,oB,[.ss [97],wX 128 0 1 m7],(crK oB [97] eZ),.si .i64 0,_,rfl,by decide,by decide,.cons (.told rfl) (.cons (.agg rfl) .nil),rfl,rfl,⟨[97],128,0,1,m7,((crK oB [97] eZ),0),rfl,by decide,by decide,Vh,rfl,rfl⟩,?_⟩
 conv=>whnf
 refine⟨0,p,(crK oB [97] eZ),[.ss [98],wX 128 0 1 m7],(stV (eZ) (eZ) false 2),.si .i64 0,_,rfl,by decide,by decide,.cons (.told rfl) (.cons (.agg rfl) .nil),rfl,rfl,⟨[98],128,0,1,m7,((stV (eZ) (eZ) false 2),0),rfl,by decide,by decide,Vi,rfl,rfl⟩,?_⟩
 conv=>whnf
 refine⟨0,p,(stV (eZ) (eZ) false 2),[.ss [97],wX 128 0 1 m7],(stV (eZ) (eZ) false 2),.si .i64 6,_,rfl,by decide,by decide,.cons (.told rfl) (.cons (.agg rfl) .nil),rfl,rfl,⟨[97],128,0,1,m7,((stV (eZ) (eZ) false 2),6),rfl,by decide,by decide,Vj,rfl,rfl⟩,?_⟩
 conv=>whnf
 refine⟨0,p,(stV (eZ) (eZ) false 2),[gR rK],(stV (eZ) (eZ) true 3),.si .i64 0,_,rfl,by decide,by decide,.cons (.agg rfl) .nil,rfl,rfl,⟨rK,((stV (eZ) (eZ) true 3),0),rfl,by decide,Ja (by decide) (by decide),Vm,rfl,rfl⟩,?_⟩
 conv=>whnf
 refine⟨0,p,(stV (eZ) (eZ) true 3),[.ss [97],.agg [.si .i64 1,.si .i64 5],.si .i64 0],(stV (eK 1 [(1,5)]) (eZ) true 3),.si .i64 0,_,rfl,by decide,by decide,.cons (.told rfl) (.cons (.agg rfl) (.cons (.told rfl) .nil)),rfl,rfl,⟨[97],1,5,0,((stV (eK 1 [(1,5)]) (eZ) true 3),0),rfl,⟨by decide,by decide⟩,wH,Ja (by decide) (by decide),Vo,rfl,rfl⟩,?_⟩
 conv=>whnf
 refine⟨0,p,(stV (eK 1 [(1,5)]) (eZ) true 3),[.ss [97],.agg [.si .i64 5,.si .i64 6],.si .i64 0],(stV (eK 5 [(1,5),(5,6)]) (eZ) true 3),.si .i64 0,_,rfl,by decide,by decide,.cons (.told rfl) (.cons (.agg rfl) (.cons (.told rfl) .nil)),rfl,rfl,⟨[97],5,6,0,((stV (eK 5 [(1,5),(5,6)]) (eZ) true 3),0),rfl,⟨by decide,by decide⟩,wH,Ja (by decide) (by decide),Vp,rfl,rfl⟩,?_⟩
 conv=>whnf
 refine⟨0,p,(stV (eK 5 [(1,5),(5,6)]) (eZ) true 3),[.ss [98],MQ],.tup [.fr (List.length []) 2 (smp []),.si .i64 0],rfl,by decide,by decide,.cons (.told rfl) (.cons (.agg rfl) .nil),rfl,rfl,⟨[98],.inr ⟨eZ,rfl,rfl,Vr,rfl⟩⟩,?_⟩
 conv=>whnf
 refine⟨0,p,(stV (eK 5 [(1,5),(5,6)]) (eZ) true 3),[.ss [97],.si .i64 12,.si .i64 1],(stV (eK 12 [(1,5),(5,6),(12,7)]) (eK 0 [(0,11)]) true 3),.tup [.si .i64 7,.si .i64 0],_,rfl,by decide,by decide,.cons (.told rfl) (.cons (.told rfl) (.cons (.told rfl) .nil)),rfl,rfl,⟨[97],12,1,((stV (eK 12 [(1,5),(5,6),(12,7)]) (eK 0 [(0,11)]) true 3),7,0),rfl,wH,Ja (by decide) (by decide),Wl,rfl,rfl⟩,?_⟩
 conv=>whnf
 refine⟨0,p,(stV (eK 12 [(1,5),(5,6),(12,7)]) (eK 0 [(0,11)]) true 3),[.ss [98],MQ],.tup [.fr (List.length [(0,11)]) 2 (smp [(0,11)]),.si .i64 0],rfl,by decide,by decide,.cons (.told rfl) (.cons (.agg rfl) .nil),rfl,rfl,⟨[98],.inr ⟨eK 0 [(0,11)],rfl,rfl,Vu,Vw⟩⟩,?_⟩
 conv=>whnf
 refine⟨0,p,(stV (eK 12 [(1,5),(5,6),(12,7)]) (eK 0 [(0,11)]) true 3),[.ss [98],.agg [.si .i64 1,.si .i64 5],.si .i64 0],(stV (eK 12 [(1,5),(5,6),(12,7)]) (eK 0 [(0,11)]) true 3),.si .i64 10,_,rfl,by decide,by decide,.cons (.told rfl) (.cons (.agg rfl) (.cons (.told rfl) .nil)),rfl,rfl,⟨[98],1,5,0,((stV (eK 12 [(1,5),(5,6),(12,7)]) (eK 0 [(0,11)]) true 3),10),rfl,⟨by decide,by decide⟩,wH,Ja (by decide) (by decide),Vq,rfl,rfl⟩,?_⟩
 conv=>whnf
 refine⟨0,p,(stV (eK 12 [(1,5),(5,6),(12,7)]) (eK 0 [(0,11)]) true 3),[.ss [97],.si .i64 5,.si .i64 5],(stV (eK 12 [(1,5),(12,7)]) (eK 0 [(0,5)]) true 3),.tup [.si .i64 1,.si .i64 0],_,rfl,by decide,by decide,.cons (.told rfl) (.cons (.told rfl) (.cons (.told rfl) .nil)),rfl,rfl,⟨[97],5,5,((stV (eK 12 [(1,5),(12,7)]) (eK 0 [(0,5)]) true 3),1,0),rfl,wH,Ja (by decide) (by decide),Wm,rfl,rfl⟩,?_⟩
 conv=>whnf
 refine⟨0,p,(stV (eK 12 [(1,5),(12,7)]) (eK 0 [(0,5)]) true 3),[.ss [98],MQ],.tup [.fr (List.length [(0,5)]) 2 (smp [(0,5)]),.si .i64 0],rfl,by decide,by decide,.cons (.told rfl) (.cons (.agg rfl) .nil),rfl,rfl,⟨[98],.inr ⟨eK 0 [(0,5)],rfl,rfl,Vv,Vx⟩⟩,?_⟩
 conv=>whnf
 refine⟨0,p,(stV (eK 12 [(1,5),(12,7)]) (eK 0 [(0,5)]) true 3),[.ss [97]],Va (some (eK 12 [(1,5),(12,7)])),rfl,by decide,by decide,.cons (.told rfl) .nil,rfl,rfl,⟨[97],rfl,rfl⟩,?_⟩
 conv=>whnf
 refine⟨0,p,(stV (eK 12 [(1,5),(12,7)]) (eK 0 [(0,5)]) true 3),[.ss [99],q0],.tup [.nsl,.si .i64 5],rfl,by decide,by decide,.cons (.told rfl) (.cons (.agg rfl) .nil),rfl,rfl,⟨[99],.inl ⟨rfl,rfl,rfl⟩⟩,?_⟩
 conv=>whnf
 refine⟨0,p,(stV (eK 12 [(1,5),(12,7)]) (eK 0 [(0,5)]) true 3),[.ss [97],.ss [98]],(stV (eK 12 [(1,5),(12,7)]) (eK 0 [(0,5)]) false 3),.si .i64 0,_,rfl,by decide,by decide,.cons (.told rfl) (.cons (.told rfl) .nil),rfl,rfl,⟨[97],[98],((stV (eK 12 [(1,5),(12,7)]) (eK 0 [(0,5)]) false 3),0),rfl,Wn,rfl,rfl⟩,?_⟩
 conv=>whnf
 iterate 9
  refine ag.dec (fun _=>?_) (fun z=>absurd (by decide) z)
  conv=>whnf
 refine⟨[(0,11)],[(0,11)],.inr (.inl (.inr ⟨_,rfl,rfl,by decide⟩)),.inr (.inr ⟨_,_,_,_,_,_,rfl,.inr ⟨_,rfl⟩,rfl,rfl,by decide⟩),by decide,by decide,?_⟩
 conv=>whnf
 refine ag.sb (fun _=>?_) (fun z=>absurd (Vy.symm.trans z) (by decide))
 conv=>whnf
 iterate 4
  refine ag.dec (fun _=>?_) (fun z=>absurd (by decide) z)
  conv=>whnf
 refine⟨[(0,5)],[(0,5)],.inr (.inl (.inr ⟨_,rfl,rfl,by decide⟩)),.inr (.inr ⟨_,_,_,_,_,_,rfl,.inr ⟨_,rfl⟩,rfl,rfl,by decide⟩),by decide,by decide,?_⟩
 conv=>whnf
 refine ag.sb (fun _=>?_) (fun z=>absurd (Vz.symm.trans z) (by decide))
 conv=>whnf
 refine ag.sb (fun _=>?_) (fun z=>absurd z (by decide))
 conv=>whnf
 iterate 3
  refine ag.dec (fun _=>?_) (fun z=>absurd (by decide) z)
  conv=>whnf
 refine⟨0,p,(stV (eK 12 [(1,5),(12,7)]) (eK 0 [(0,5)]) false 3),[],.fr 0 5 [],rfl,by decide,by decide,.nil,rfl,rfl,⟨rfl,by rw[Vg];rfl⟩,?_⟩
 conv=>whnf
 iterate 1
  refine ag.dec (fun _=>?_) (fun z=>absurd (by decide) z)
  conv=>whnf
 refine⟨0,p,(stV (eK 12 [(1,5),(12,7)]) (eK 0 [(0,5)]) false 3),[],.fr 2 1 (strs [[97],[98]]),rfl,by decide,by decide,.nil,rfl,rfl,⟨rfl,by rw[Tg];rfl⟩,?_⟩
 conv=>whnf
 refine⟨[.fr 2 1 (strs [[97],[98]]),.fr 2 1 (strs [[97],[98]])],.sb true,_,.cons .same (.cons (.sl rfl rfl rfl rfl) .nil),⟨[[97],[98]],[[97],[98]],rfl,by decide,rfl⟩,?_⟩
 conv=>whnf
 refine ag.sb (fun _=>?_) (fun z=>absurd z (by decide))
 conv=>whnf
 refine⟨0,p,(stV (eK 12 [(1,5),(12,7)]) (eK 0 [(0,5)]) false 3),[97],_,rfl,by decide,by decide,.cons (.told rfl) .nil,rfl,rfl,.inr ⟨_,rfl,fun p2=>?_⟩⟩
 conv=>whnf
 refine⟨102,p2,_,_,_,rfl,by decide,rfl,⟨by decide,rfl,rfl,rfl,rfl⟩,⟨rfl,rfl⟩,?_⟩
 conv=>whnf
 iterate 1
  refine ag.dec (fun _=>?_) (fun z=>absurd (by decide) z)
  conv=>whnf
 refine⟨0,p,(stV (eK 12 [(1,5),(12,7)]) (eK 0 [(0,5)]) false 3),[.ss [97]],(oA (stV (eK 12 [(1,5),(12,7)]) (eK 0 [(0,5)]) false 3) [97]),.sb true,_,rfl,by decide,by decide,.cons (.told rfl) .nil,rfl,rfl,⟨[97],rfl,rfl,rfl⟩,?_⟩
 conv=>whnf
 refine ag.sb (fun _=>?_) (fun z=>absurd z (by decide))
 conv=>whnf
 refine⟨0,p,(oA (stV (eK 12 [(1,5),(12,7)]) (eK 0 [(0,5)]) false 3) [97]),[.ss [97]],(oA (stV (eK 12 [(1,5),(12,7)]) (eK 0 [(0,5)]) false 3) [97]),.sb false,_,rfl,by decide,by decide,.cons (.told rfl) .nil,rfl,rfl,⟨[97],rfl,VA,VB⟩,?_⟩
 conv=>whnf
 exact rfl
end Go.Proofs.YtflehenfikoniaaGreat
namespace Go.Proofs.YtflehenfikoniaaGreat
open Go Go.RowKit Go.ChangeShapes Go.WideShapes
theorem Jc:ai 14 Ei:=fun args H n κ hs φ h0' hp vs K hr hargs hk=>by
 unfold Ei at hs;split at hs
 ·exact gM (v:= .bool true) PN rfl Jb hs hr hk (by kernel_rfl) HR.ro0 (by rw[hargs.aM];exact .nil)
 ·exact hs.elim
structure Oq where
 kind:Int
 key:Tx
 t:Int
 v:Int
 p:Int
 z:Int
 ret:Int
 pol:Int
 lab:List Lab
 r:Rl
def opC (o:Oq):List AV:=[.si .i64 o.kind,.ss o.key,.si .i64 o.t,.si .i64 o.v,.si .i64 o.p,.si .i64 o.z,.si .i64 o.ret,.si .i64 o.pol,gL o.lab,.ss o.r.src,.ss o.r.dst,.si .i64 o.r.kind,.si .i64 o.r.size,.si .i64 o.r.align]
structure Oq.In (o:Oq):Prop where
 kind:aN o.kind
 t:aN o.t
 v:aN o.v
 p:aN o.p
 lab:o.lab.length<=maxLen
section
variable {H:Type} {enc:TypeId×Value->H} {P:Program} {W:World} {held:Bool}
def MX:Value->Tx
 | .string s=>s.data.toList.map UInt8.toNat
 |_=> []
def CM:List Value->Lab
 | [a,b]=>(MX a,MX b)
 |_=>([],[])
theorem yf {Tr:TypeId->Value->Prop}:∀{rows:List (List Value)},(∀r∈rows,jO Tr [.str,.str] r)->∀φ:Ph,VRs φ (cJ (rows.map CM)) rows.flatten
 | [],_,φ=> .nil
 |r::rows,h,φ=>by
  obtain⟨g1,g2⟩:=h r List.mem_cons_self
  match r,g1,g2 with
  | [v,w],_,g2=>
   obtain⟨a,rfl,ha⟩:=g2 0 _ v rfl rfl
   obtain⟨b,rfl,hb⟩:=g2 1 _ w rfl rfl
   exact .cons (lQ a) (.cons (lQ b) (yf (fun x hx=>h x (List.mem_cons_of_mem _ hx)) φ))
theorem yg:∀l:List Lab,(cJ l).all nL=true
 | []=>rfl
 |y::l=>yg l
theorem MY (l:List Lab):(cJ l).length=l.length*2:=by
 induction l with
 |nil=>rfl
 |cons y l ih=>show(cJ l).length+1+1=_;rw[ih,List.length_cons];omega
theorem Jd {t e:TypeId} {d fuel:Nat} {v:Value} {D:DataW H} {ps:List MemPlace} (ht:P.underlying t=some (.slice e)) (hk:yW P d e=some [.str,.str]) (hc2:P.cellsOf e=2) (hf:DataW.trod enc P W 0 (fun _=>true) held fuel t [v]=some (D,ps)):
 ∃(L:List Lab) (z:Fz->Prop),rZ W z/\(∀χ:Ph,(∀q,z q->χ.z q)->VR χ (gL L) v)/\L.length<=maxLen:=by
 obtain⟨rows,h1,h2,h3,h4⟩:=DK ht hk rfl hc2 (by decide) hf
 rcases h4 with⟨rfl,a,C,rfl,hC⟩|⟨b,off,cap,cc,u,fz,rfl,hcap,hb,hsz,hcell⟩
 ·exact⟨[],fun _=>False,.none,fun χ _=> .fre hC,Nat.zero_le _⟩
 ·obtain⟨k1,k2⟩:=NF (m:=rows.length) (k:=2) (L:=cJ (rows.map CM)) (z:=fun q=>q=⟨b,off,cJ (rows.map CM)⟩) hb hcap (by rw[MY,List.length_map]) hsz (yg _) rfl (yf (fun r hr=>(h1 r hr).1) _) hcell
  exact⟨rows.map CM,fun q=>q=⟨b,off,cJ (rows.map CM)⟩,fun q hq=>by subst hq;exact k1,fun χ hχ=>by unfold gL;rw[List.length_map];exact k2 χ hχ,by rw[List.length_map];exact h3⟩
abbrev VC (t:TypeId):List Kd:=[.int .i64,.str,.int .i64,.int .i64,.int .i64,.int .i64,.int .i64,.int .i64,.sl t,.str,.str,.int .i64,.int .i64,.int .i64]
theorem PR {tl el:TypeId} {d:Nat} {r:List Value} (hl:P.underlying tl=some (.slice el)) (hkl:yW P d el=some [.str,.str]) (hcl:P.cellsOf el=2) (h:jO (TrS enc P W 0 (fun _=>true) held) (VC tl) r):
 ∃(o:Oq) (z:Fz->Prop),o.In/\rZ W z/\∀χ:Ph,(∀q,z q->χ.z q)->VRs χ (opC o) r:=by
 obtain⟨g1,g2⟩:=h
 match r,g1,g2 with
 | [v0,v1,v2,v3,v4,v5,v6,v7,v8,v9,v10,v11,v12,v13],_,g2=>
  obtain⟨a0,rfl,w0⟩:=g2 0 _ v0 rfl rfl
  obtain⟨a1,rfl,_⟩:=g2 1 _ v1 rfl rfl
  obtain⟨a2,rfl,w2⟩:=g2 2 _ v2 rfl rfl
  obtain⟨a3,rfl,w3⟩:=g2 3 _ v3 rfl rfl
  obtain⟨a4,rfl,w4⟩:=g2 4 _ v4 rfl rfl
  obtain⟨a5,rfl,_⟩:=g2 5 _ v5 rfl rfl
  obtain⟨a6,rfl,_⟩:=g2 6 _ v6 rfl rfl
  obtain⟨a7,rfl,_⟩:=g2 7 _ v7 rfl rfl
  obtain⟨fuel2,⟨D2,ps2⟩,hf2⟩:=g2 8 _ v8 rfl rfl
  obtain⟨a9,rfl,_⟩:=g2 9 _ v9 rfl rfl
  obtain⟨a10,rfl,_⟩:=g2 10 _ v10 rfl rfl
  obtain⟨a11,rfl,_⟩:=g2 11 _ v11 rfl rfl
  obtain⟨a12,rfl,_⟩:=g2 12 _ v12 rfl rfl
  obtain⟨a13,rfl,_⟩:=g2 13 _ v13 rfl rfl
  obtain⟨L,z,j1,j2,j3⟩:=Jd hl hkl hcl hf2;exact⟨⟨a0,MX (.string a1),a2,a3,a4,a5,a6,a7,L,⟨MX (.string a9),MX (.string a10),a11,a12,a13⟩⟩,z,⟨.of w0,.of w2,.of w3,.of w4,j3⟩,j1,fun χ hχ=> .cons (.si _ _) (.cons (lQ _) (.cons (.si _ _) (.cons (.si _ _) (.cons (.si _ _) (.cons (.si _ _) (.cons (.si _ _) (.cons (.si _ _) (.cons (j2 χ hχ) (.cons (lQ _) (.cons (lQ _) (.cons (.si _ _) (.cons (.si _ _) (.cons (.si _ _) .nil)))))))))))))⟩
theorem Tl {b0:Nat} {t tl el:TypeId} {d d2:Nat} {v:Value} {D:DataW H} {ps:List MemPlace} {fs:Array Field} (hu:P.underlying t=some (.struct fs)) (hk:yW P d t=some (VC tl)) (hl:P.underlying tl=some (.slice el)) (hkl:yW P d2 el=some [.str,.str]) (hcl:P.cellsOf el=2) (hval:Value.okWide P W .any b0 t v) (hd:DataW.Trod enc P W 0 (fun _=>true) held t v D ps):
 ∃(o:Oq) (z:Fz->Prop),o.In/\rZ W z/\∀χ:Ph,(∀q,z q->χ.z q)->VR χ (.agg (opC o)) v:=by
 simp only[Value.okWide,hu]at hval;obtain⟨cs,rfl,_⟩:=hval;obtain⟨fuel,hf⟩:=hd;obtain⟨g1,g2⟩:=qL d t _ fuel _ _ hk hf;obtain⟨l⟩:=cs;obtain⟨o,z,j1,j2,j3⟩:=PR hl hkl hcl ⟨g1,g2⟩;exact⟨o,z,j1,j2,fun χ hχ=> .agg (j3 χ hχ)⟩
end
end Go.Proofs.YtflehenfikoniaaGreat
namespace Go.Proofs.YtflehenfikoniaaGreat
open Go Go.RowKit
def CN (l:List Nat):DT:=l.map fun i=>(i,[(some 1000001,[])])
noncomputable def kNl:FuncId->EP:=aV 32 (CN [4,5]) (aV 45 (CN [5]) (aV 35 (CN [4]) (aV 48 (CN [4,5]) (aV 26 (CN [3,7]) (aV 46 (CN [8,9]) (aV 38 (CN [5,7]) (aV 36 (CN [8]) evP)))))))
theorem fR:aW kNl:=aq (aq (aq (aq (aq (aq (aq (aq az (by kernel_rfl) (by kernel_rfl)) (by kernel_rfl) (by kernel_rfl)) (by kernel_rfl) (by kernel_rfl)) (by kernel_rfl) (by kernel_rfl)) (by kernel_rfl) (by kernel_rfl)) (by kernel_rfl) (by kernel_rfl)) (by kernel_rfl) (by kernel_rfl)) (by kernel_rfl) (by kernel_rfl)
def MZ (cs:List AV) (v:AV):Prop:=∃(k:Tx) (a:Int) (b:Int),cs=[.nil,.ss k,.si .i64 a,.si .i64 b]/\v= .tup [.int .i64 0,.int .i64 11]
theorem Tm:ai 19 (aZ MZ):=fH (an fR 4 _) (by kernel_rfl) fun cs v ⟨k,a,b,h1,h2⟩=>by
 subst h1 h2;refine⟨rfl,rfl,?_⟩
 conv=>whnf
 exact cF.told rfl
def QP (cs:List AV) (v:AV):Prop:=∃(k:Tx) (a:Int) (b:Int),cs=[.nil,.ss k,.si .i64 a,.si .i64 b]/\v= .tup [.int .i64 0,.int .i64 11]
theorem VD:ai 44 (aZ QP):=fH (an fR 4 _) (by kernel_rfl) fun cs v ⟨k,a,b,h1,h2⟩=>by
 subst h1 h2;refine⟨rfl,rfl,?_⟩
 conv=>whnf
 exact cF.told rfl
def M0 (cs:List AV) (v:AV):Prop:=∃(k:Tx),cs=[.nil,.ss k,q0]/\v= .tup [.nsl,.int .i64 11]
theorem Tn:ai 45 (aZ M0):=fH (an fR 4 _) (by kernel_rfl) fun cs v ⟨k,h1,h2⟩=>by
 subst h1 h2;refine⟨rfl,rfl,?_⟩
 conv=>whnf
 exact cF.told rfl
def yh (cs:List AV) (v:AV):Prop:=∃(k:Tx),cs=[.nil,.ss k]/\v= .tup [.agg [.int .i64 0,.int .i64 0,.int .i64 0,.nsl],.bool false]
theorem Je:ai 35 (aZ yh):=fH (an fR 4 _) (by kernel_rfl) fun cs v ⟨k,h1,h2⟩=>by
 subst h1 h2;refine⟨rfl,rfl,?_⟩
 conv=>whnf
 exact cF.told rfl
def CO (cs:List AV) (v:AV):Prop:=∃(k:Tx) (z:Int) (a:Int) (b:Int) (l:List Lab),cs=[.nil,.ss k,wX z a b l]/\v= .int .i64 11
theorem M1:ai 46 (aZ CO):=fH (an fR 4 _) (by kernel_rfl) fun cs v ⟨k,z,a,b,l,h1,h2⟩=>by
 subst h1 h2;refine⟨rfl,rfl,?_⟩
 conv=>whnf
 exact cF.told rfl
def GX (cs:List AV) (v:AV):Prop:=∃(k:Tx) (a:Int) (b:Int),cs=[.nil,.ss k,.si .i64 a,.si .i64 b,.nsl]/\v= .int .i64 11
theorem PS:ai 47 (aZ GX):=fH (an fR 4 _) (by kernel_rfl) fun cs v ⟨k,a,b,h1,h2⟩=>by
 subst h1 h2;refine⟨rfl,rfl,?_⟩
 conv=>whnf
 exact cF.told rfl
def M3 (cs:List AV) (v:AV):Prop:=∃(k:Tx),cs=[.nil,.ss k]/\v= .bool false
theorem To:ai 27 (aZ M3):=fH (an fR 4 _) (by kernel_rfl) fun cs v ⟨k,h1,h2⟩=>by
 subst h1 h2;refine⟨rfl,rfl,?_⟩
 conv=>whnf
 exact cF.told rfl
def QQ (cs:List AV) (v:AV):Prop:=∃(k:Tx) (a:Int) (b:Int) (d:Int),cs=[.nil,.ss k,.agg [.si .i64 a,.si .i64 b],.si .i64 d]/\v= .int .i64 11
theorem VE:ai 32 (aZ QQ):=fH (an fR 4 _) (by kernel_rfl) fun cs v ⟨k,a,b,d,h1,h2⟩=>by
 subst h1 h2;refine⟨rfl,rfl,?_⟩
 conv=>whnf
 exact cF.told rfl
def M4 (cs:List AV) (v:AV):Prop:=∃(r:Rl),cs=[.nil,gR r]/\v= .int .i64 11
theorem Tp:ai 48 (aZ M4):=fH (an fR 4 _) (by kernel_rfl) fun cs v ⟨r,h1,h2⟩=>by
 subst h1 h2;refine⟨rfl,rfl,?_⟩
 conv=>whnf
 exact cF.told rfl
def CQ (cs:List AV) (v:AV):Prop:=∃(k:Tx) (d:Tx),cs=[.nil,.ss k,.ss d]/\v= .int .i64 11
theorem M5:ai 49 (aZ CQ):=fH (an fR 4 _) (by kernel_rfl) fun cs v ⟨k,d,h1,h2⟩=>by
 subst h1 h2;refine⟨rfl,rfl,?_⟩
 conv=>whnf
 exact cF.told rfl
def yi (cs:List AV) (v:AV):Prop:=∃(k:Tx) (z:Int) (a:Int) (b:Int) (l:List Lab) (c:Int) (d:Int),cs=[.nil,.ss k,wX z a b l,.si .i64 c,.si .i64 d,.nsl]/\v= .int .i64 11
theorem Jf:ai 36 (aZ yi):=fH (an fR 4 _) (by kernel_rfl) fun cs v ⟨k,z,a,b,l,c,d,h1,h2⟩=>by
 subst h1 h2;refine⟨rfl,rfl,?_⟩
 conv=>whnf
 exact cF.told rfl
def CS (cs:List AV) (v:AV):Prop:=∃(r:Rl),cs=[.nil,gR r]/\v= .int .i64 11
theorem M6:ai 38 (aZ CS):=fH (an fR 4 _) (by kernel_rfl) fun cs v ⟨r,h1,h2⟩=>by
 subst h1 h2;refine⟨rfl,rfl,?_⟩
 conv=>whnf
 exact cF.told rfl
def CT (cs:List AV) (v:AV):Prop:=∃(k:Tx),cs=[.nil,.ss k]/\v= .nil
theorem M7:ai 16 (aZ CT):=fH (an fR 4 _) (by kernel_rfl) fun cs v ⟨k,h1,h2⟩=>by
 subst h1 h2;refine⟨rfl,rfl,?_⟩
 conv=>whnf
 exact cF.told rfl
def M8 (cs:List AV) (v:AV):Prop:=cs=[.nil,.nsl]/\v= .nsl
theorem Tq:ai 50 (aZ M8):=fH (an fR 4 _) (by kernel_rfl) fun cs v ⟨h1,h2⟩=>by
 subst h1 h2;refine⟨rfl,rfl,?_⟩
 conv=>whnf
 exact cF.told rfl
def M9 (cs:List AV) (v:AV):Prop:=cs=[.nil]/\v= .nsl
theorem Ts:ai 25 (aZ M9):=fH (an fR 4 _) (by kernel_rfl) fun cs v ⟨h1,h2⟩=>by
 subst h1 h2;refine⟨rfl,rfl,?_⟩
 conv=>whnf
 exact cF.told rfl
def GY (cs:List AV) (v:AV):Prop:=cs=[.nil]/\v= .nsl
theorem PT:ai 12 (aZ GY):=fH (an fR 4 _) (by kernel_rfl) fun cs v ⟨h1,h2⟩=>by
 subst h1 h2;refine⟨rfl,rfl,?_⟩
 conv=>whnf
 exact cF.told rfl
def Na (cs:List AV) (v:AV):Prop:=cs=[.nil]/\v= .nil
theorem Tt:ai 26 (aZ Na):=fH (an fR 4 _) (by kernel_rfl) fun cs v ⟨h1,h2⟩=>by
 subst h1 h2;refine⟨rfl,rfl,?_⟩
 conv=>whnf
 exact cF.told rfl
noncomputable def VF:FuncId->EP:=aw 14 Ei (aw 26 (aZ Na) (aw 12 (aZ GY) (aw 25 (aZ M9) (aw 50 (aZ M8) (aw 16 (aZ CT) (aw 38 (aZ CS) (aw 36 (aZ yi) (aw 49 (aZ CQ) (aw 48 (aZ M4) (aw 32 (aZ QQ) (aw 27 (aZ M3) (aw 47 (aZ GX) (aw 46 (aZ CO) (aw 35 (aZ yh) (aw 45 (aZ M0) (aw 44 (aZ QP) (aw 19 (aZ MZ) (aV 8 [] evP))))))))))))))))))
theorem PU:aW VF:=ae (ae (ae (ae (ae (ae (ae (ae (ae (ae (ae (ae (ae (ae (ae (ae (ae (ae (aq az (by kernel_rfl) (by kernel_rfl)) Tm) VD) Tn) Je) M1) PS) To) VE) Tp) M5) Jf) M6) M7) Tq) Ts) PT) Tt) Jc
theorem EO (o:Oq) (_:o.In):ax VF 6 8 [.agg (opC o)] .nil 0 fun v _ _=>v= .bool true∨v= .sb true:=by
 conv=>whnf
 refine⟨[.nil,.ss o.key,.si .i64 1,.si .i64 1],_,_,.cons (.told rfl) (.cons (.told rfl) (.cons (.told rfl) (.cons (.told rfl) .nil))),⟨o.key,1,1,rfl,rfl⟩,?_⟩
 conv=>whnf
 refine⟨[.nil,.ss o.key,.si .i64 1,.si .i64 1],_,_,.cons (.told rfl) (.cons (.told rfl) (.cons (.told rfl) (.cons (.told rfl) .nil))),⟨o.key,1,1,rfl,rfl⟩,?_⟩
 conv=>whnf
 refine⟨[.nil,.ss o.key,q0],_,_,.cons (.told rfl) (.cons (.told rfl) (.cons (.agg rfl) .nil)),⟨o.key,rfl,rfl⟩,?_⟩
 conv=>whnf
 refine⟨[.nil,.ss o.key],_,_,.cons (.told rfl) (.cons (.told rfl) .nil),⟨o.key,rfl,rfl⟩,?_⟩
 conv=>whnf
 refine⟨[.nil,.ss o.key,wX o.z o.ret o.pol o.lab],_,_,.cons (.told rfl) (.cons (.told rfl) (.cons (.agg rfl) .nil)),⟨o.key,_,_,_,_,rfl,rfl⟩,?_⟩
 conv=>whnf
 refine⟨[.nil,.ss o.key,.si .i64 0,.si .i64 1,.nsl],_,_,.cons (.told rfl) (.cons (.told rfl) (.cons (.told rfl) (.cons (.told rfl) (.cons (.told rfl) .nil)))),⟨o.key,_,_,rfl,rfl⟩,?_⟩
 conv=>whnf
 refine⟨[.nil,.ss o.key],_,_,.cons (.told rfl) (.cons (.told rfl) .nil),⟨o.key,rfl,rfl⟩,?_⟩
 conv=>whnf
 refine⟨[.nil,.ss o.key,.agg [.si .i64 o.t,.si .i64 o.v],.si .i64 0],_,_,.cons (.told rfl) (.cons (.told rfl) (.cons (.agg rfl) (.cons (.told rfl) .nil))),⟨o.key,_,_,_,rfl,rfl⟩,?_⟩
 conv=>whnf
 refine⟨[.nil,gR o.r],_,_,.cons (.told rfl) (.cons (.agg rfl) .nil),⟨o.r,rfl,rfl⟩,?_⟩
 conv=>whnf
 refine⟨[.nil,.ss [97],.ss [98]],_,_,.cons (.told rfl) (.cons (.told rfl) (.cons (.told rfl) .nil)),⟨_,_,rfl,rfl⟩,?_⟩
 conv=>whnf
 refine⟨[.nil,.ss o.key,wX o.z o.ret o.pol o.lab,.si .i64 0,.si .i64 0,.nsl],_,_,.cons (.told rfl) (.cons (.told rfl) (.cons (.agg rfl) (.cons (.told rfl) (.cons (.told rfl) (.cons (.told rfl) .nil))))),⟨o.key,_,_,_,_,_,_,rfl,rfl⟩,?_⟩
 conv=>whnf
 refine⟨[.nil,gR o.r],_,_,.cons (.told rfl) (.cons (.agg rfl) .nil),⟨o.r,rfl,rfl⟩,?_⟩
 conv=>whnf
 refine⟨[.nil,.ss o.key],_,_,.cons (.told rfl) (.cons (.told rfl) .nil),⟨o.key,rfl,rfl⟩,?_⟩
 conv=>whnf
 refine⟨[.nil,.nsl],_,_,.cons (.told rfl) (.cons (.told rfl) .nil),⟨rfl,rfl⟩,?_⟩
 conv=>whnf
 refine⟨[.nil],_,_,.cons (.told rfl) .nil,⟨rfl,rfl⟩,?_⟩
 conv=>whnf
 refine⟨[.nil],_,_,.cons (.told rfl) .nil,⟨rfl,rfl⟩,?_⟩
 conv=>whnf
 refine⟨[.nil],_,_,.cons (.told rfl) .nil,⟨rfl,rfl⟩,?_⟩
 conv=>whnf
 exact .inr rfl
end Go.Proofs.YtflehenfikoniaaGreat
