/- Texts of our own, joined: the engine, the machine that runs code, and what is known of the functions. -/
import Derived.Test.YtflehenfikoniaaGreatRows
import Derived.WalkKit
import Derived.Deep.Quiet
import Derived.ProofKit
import Derived.Laws.StructEq
import Derived.LaidEql
import Derived.Laws.BytesArg
import Derived.Maps.RangeRun
import Derived.RangeFuncSeq
import Derived.Scope
import Derived.Laws.Strings
import Derived.Laws.Strings2
import Derived.Test.YtflehenfikoniaaGreatJa
import Derived.Below
import Derived.Carry
import Derived.OpenShut
import Derived.ChangeMaps5
import Derived.Deep.Slices
import Derived.Deep.SlicePairs
import Derived.SizedLaws
set_option linter.unusedSimpArgs false
set_option linter.unusedVariables false
set_option maxHeartbeats 16000000
set_option maxRecDepth 100000
namespace Go.Proofs.YtflehenfikoniaaGreat
open Go Go.RowKit
theorem Hr {φ:Ph} {a:AV} {v:Value} (h:VR φ a v) (e:nJ a=true):v.oneCell'=true:=by
 cases a<;>simp only[nJ]at e
 case agg=>cases e
 case tup=>cases e
 case bad=>cases e
 case any u=>rw[h.tN];exact e
 case si=>rw[h.fy];rfl
 case rw=>
  rcases h.gz with⟨_,he⟩|⟨p,y,C,_,rfl,_⟩
  ·obtain⟨a,rfl⟩:=he.is;rfl
  ·rfl
 case fr=>obtain⟨a,C,rfl⟩:=h.JD;rfl
 case fa=>obtain⟨q,x,_,rfl,_⟩:=h.yH;rfl
 case sb=>rw[h.jE];rfl
 case ss=>rw[h.rN.1];rfl
 case sy=>obtain⟨p,C,_,rfl,_⟩:=h.yG;rfl
 case int=>rw[h.bV];rfl
 case str=>rw[h.cr.1];rfl
 case bool=>rw[h.bQ];rfl
 case nil=>rw[h.aM];rfl
 case ptr=>obtain⟨p,_,rfl⟩:=h.ct;rfl
 case nsl=>rw[h.cP];rfl
 case sl=>obtain⟨p,C,_,rfl,_⟩:=h.eo;rfl
 case esl=>obtain⟨p,x,C,_,rfl,_⟩:=h.jU;rfl
 case fn=>obtain⟨p,q,rfl,_⟩:=h.mF;rfl
 case map=>obtain⟨p,_,rfl⟩:=h.kZ;rfl
theorem lM {φ:Ph}:∀{l:List AV} {vs:List Value},VRs φ l vs->l.all nJ=true->vs.all Value.oneCell'=true
 | [],vs,h,_=>by rw[h.aM];rfl
 |a::l,vs,h,e=>by
  obtain⟨v,us,rfl,h1,h2⟩:=h.cons_inv;simp only[List.all_cons,Bool.and_eq_true]at e⊢;exact⟨Hr h1 e.1,lM h2 e.2⟩
theorem CR.append {φ:Ph} {c:Array Value} {s:Nat} {l m:List AV} (h:CR φ c s l) (k:CR φ c (s+l.length) m):CR φ c s (l++m):=fun i a e=>by
 by_cases hi:i<l.length
 ·rw[List.getElem?_append_left hi]at e;exact h i a e
 ·rw[List.getElem?_append_right (by omega)]at e;obtain⟨v,h1,h2⟩:=k _ a e;exact⟨v,by rw[<-h1];congr 1;omega,h2⟩
theorem CR.drop {φ:Ph} {c:Array Value} {s o m:Nat} {l:List AV} (h:CR φ c s l):CR φ c (s+o) ((l.drop o).take m):=fun i a e=>by
 rw[List.getElem?_take]at e;split at e
 ·rw[List.getElem?_drop]at e;obtain⟨v,h1,h2⟩:=h _ a e;exact⟨v,by rw[<-h1];congr 1;omega,h2⟩
 ·cases e
theorem CR.kept {φ:Ph} {c:Array Value} {s o:Nat} {l:List AV} {vs:List Value} (h:CR φ c s l) (ho:s+l.length<=o):CR φ (dL c o vs) s l:=fun i a e=>by
 have:=(List.getElem?_eq_some_iff.1 e).1;rw[mG,if_neg (by omega)];exact h i a e
theorem CR.wrote {φ:Ph} {c:Array Value} {o:Nat} {l:List AV} {vs:List Value} (h:VRs φ l vs) (ho:o+l.length<=c.size):CR φ (dL c o vs) o l:=fun i a e=>by
 have hi:=(List.getElem?_eq_some_iff.1 e).1;obtain⟨v,h1,h2⟩:=h.at e;have:=h.length;refine⟨v,?_,h2⟩;rw[mG,if_pos (by omega),show o+i-o=i from by omega];exact h1
theorem qk.sub {fz:Nat×Nat} {o m o' m':Nat} (h:qk fz o m) (h2:o'+m'<=o+m):qk fz o' m':=by
 unfold qk at*;omega
def pK (φ:Ph) (h0:Hp) (v:AV) (H:AH) (n:Nat) (K:KH):Prop:=∀(ψ:Ph) (u:Value) (g:Hp),PLe φ ψ->HR ψ H n h0 g->VR ψ v u->K u g
section
variable {P:Program} {φ:Ph} {H H':AH} {n n':Nat} {h0 h:Hp} {K:KH} {σ:AE} {ρ:Env} {r:AV}
theorem uT (hr:HR φ H n h0 h) {l:List AV} {cs:Array Value} {el:TypeId} (hc:VRs φ l cs.toList) (e:Nh l H n=some (r,H',n')) (hk:pK φ h0 r H' n' K):G2 el cs h K:=by
 unfold Nh at e;injection e with e;injection e with e1 e2;injection e2 with e2 e3;subst e1 e2 e3;have hl:l.length=cs.size:=by simpa using hc.length
 have ho:OR (ez φ n ⟨h.n,0,cs.size⟩) ⟨h.n,0,cs.size⟩ (.cells l true) (.cells cs el (0,0)):=
  ⟨cs,el,(0,0),rfl,by simp only;omega,by simp only;omega,iO _ _,fun _=>rfl,CR.mono (hr.ple _) (CR.of' hc)⟩
 exact hk _ _ _ (hr.ple _) (hr.new ho aa) (.ptr (bw _ _ _))
theorem qB (hr:HR φ H n h0 h) {t:TypeId} {a x:AV} {av xv:Value} (ha:VR φ a av) (hx:VR φ x xv) (e:yE P t a x H n=some (r,H',n')) (hk:pK φ h0 r H' n' K):ny P t av xv h K:=by
 unfold yE at e;split at e
 ·rename_i b o;obtain⟨p,hp,rfl⟩:=ha.ct;split at e
  ·rename_i l z s hb hs;obtain⟨ob,hB,hf,c,ty,fz,rfl,h1,h2,h3,h4,h5⟩:=hr.of hb hp;split at e
   ·rename_i l' hq hset;simp only[Bool.and_eq_true]at hq;have hlen:=Nat.eq_of_beq_eq_true hq.1;have hc:=hx.cells hq.2.1;have hcl:=hc.length;have hcl2:xv.cells.size=s:=by rw[<-hlen,hcl,Array.length_toList]
    obtain⟨g1,g2,g3⟩:=gZ _ _ _ _ hset;injection e with e;injection e with e1 e2;injection e2 with e2 e3;subst e1 e2 e3
    (try simp only[ny,hf])
    refine⟨by rw[hs,hcl2],lM hc hq.2.2,by omega,h3.sub (by omega),?_⟩;refine hk _ _ _ (PLe.refl _) (hr.put hb hp ?_ aa) .undef;exact⟨_,ty,fz,rfl,by omega,by rw[eI];omega,h3,h4,h5.set hset hc (by omega)⟩
   ·cases e
  ·cases e
 ·cases e
theorem k8:∀(l:List AV) (s:List Nat) (vs:List Value),VRs φ l vs->kq l=some s->bytesOf vs=some (s.map UInt8.ofNat)/\∀x∈s,x<256
 | [],s,vs,h,e=>by
  rw[h.aM];injection e with e;subst e;exact⟨rfl,fun _ hx=>by cases hx⟩
 |a::l,s,vs,h,e=>by
  unfold kq at e;split at e
  ·rename_i q;cases q
  ·rename_i m l' q;injection q with q1 q2;subst q1 q2;obtain⟨v,us,rfl,g1,g2⟩:=h.cons_inv;rw[g1.bV];split at e
   ·rename_i hlt;have hlt:m<256:=by simpa[Nat.blt_eq]using hlt
    simp only[Option.map_eq_some_iff]at e;obtain⟨s',e1,rfl⟩:=e;obtain⟨i1,i2⟩:=k8 l s' us g2 e1;refine⟨?_,fun x hx=>?_⟩
    ·(try simp only[bytesOf])
     rw[if_pos (by constructor<;>simp only[Int.ofNat_eq_natCast]<;>omega),i1];simp
    ·rcases List.mem_cons.1 hx with rfl|hx
     ·exact hlt
     ·exact i2 x hx
   ·cases e
  ·rename_i m l' q;injection q with q1 q2;subst q1 q2;obtain⟨v,us,rfl,g1,g2⟩:=h.cons_inv;rw[g1.fy];split at e
   ·rename_i hlt;have hlt:m<256:=by simpa[Nat.blt_eq]using hlt
    simp only[Option.map_eq_some_iff]at e;obtain⟨s',e1,rfl⟩:=e;obtain⟨i1,i2⟩:=k8 l s' us g2 e1;refine⟨?_,fun x hx=>?_⟩
    ·(try simp only[bytesOf])
     rw[if_pos (by constructor<;>simp only[Int.ofNat_eq_natCast]<;>omega),i1];simp
    ·rcases List.mem_cons.1 hx with rfl|hx
     ·exact hlt
     ·exact i2 x hx
   ·cases e
  ·cases e
theorem ly {s:List Nat} (hs:∀x∈s,x<256):(dZ (dU s)).toList=s.map fun c=> .int .u8 (Int.ofNat c):=by
 simp only[dZ,dU,Array.toList_map,List.map_map];apply List.map_congr_left;intro c hc;simp only[Function.comp];congr 1;rw[UInt8.toNat_ofNat',Nat.mod_eq_of_lt (hs c hc)];rfl
theorem VRs.bytes (φ:Ph) (s:List Nat):VRs φ (s.map fun c=> .int .u8 (Int.ofNat c)) (s.map fun c=> .int .u8 (Int.ofNat c)):=VRs.map (fun c=> .int _ _) s
theorem nP (hr:HR φ H n h0 h) {src dst:TypeId} {x:AV} {xv:Value} (hx:VR φ x xv) (e:AI P src dst x H n=some (r,H',n')) (hk:pK φ h0 r H' n' K):gX P src dst xv h K:=by
 unfold AI at e;split at e
 ·rename_i k1 k2 k a h1 h2;rw[hx.bV];injection e with e;injection e with e1 e2;injection e2 with e2 e3;subst e1 e2 e3
  (try simp only[gX,h1,h2])
  exact hk _ _ _ (PLe.refl _) hr (.int _ _)
 ·rename_i s h1 h2;obtain⟨rfl,hs⟩:=hx.cr;injection e with e;injection e with e1 e2;injection e2 with e2 e3;subst e1 e2 e3
  (try simp only[gX,h1,h2])
  exact hk _ _ _ (PLe.refl _) hr (.str hs)
 ·rename_i el s h1 h2;obtain⟨rfl,hs⟩:=hx.cr;split at e
  ·rename_i he;injection e with e;injection e with e1 e2;injection e2 with e2 e3;subst e1 e2 e3
   (try simp only[gX,h1,h2])
   refine⟨he,fun cap hcap=>?_⟩;rw[ia]at hcap⊢
   have hsz:(dZ (dU s)++Array.replicate (cap-s.length) (Value.int .u8 0)).size=cap:=by
    have:(dZ (dU s)).size=s.length:=by rw[<-Array.length_toList,ly hs];simp
    rw[Array.size_append,this,Array.size_replicate];omega
   have ho:OR (ez φ n ⟨h.n,0,cap⟩) ⟨h.n,0,cap⟩ (.cells (s.map fun c=> .int .u8 (Int.ofNat c)) false) (.cells (dZ (dU s)++Array.replicate (cap-s.length) (.int .u8 0)) el (cap,cap+1)):=by
    refine⟨_,el,_,rfl,by simpa using hcap,by simp only[hsz];omega,.inr (by simp only;omega),(fun q=>by cases q),?_⟩;have:=CR.of (φ:=ez φ n ⟨h.n,0,cap⟩) (VRs.bytes _ s) (Array.replicate (cap-s.length) (Value.int .u8 0)).toList;rw[<-ly hs]at this
    have e2:((dZ (dU s)).toList++(Array.replicate (cap-s.length) (Value.int .u8 0)).toList).toArray=dZ (dU s)++Array.replicate (cap-s.length) (Value.int .u8 0):=by
     apply Array.ext';simp
    rwa [e2]at this
   have:=hk _ (.slice (some ⟨h.n,0+0,none⟩) s.length cap) _ (hr.ple _) (hr.new ho aa) (.sl (bw _ _ _) (fun q=>absurd q (by decide)) (fun _=>⟨hcap,by simp⟩));exact this
  ·cases e
 ·rename_i el h1 h2;rw[hx.cP];split at e
  ·rename_i he;injection e with e;injection e with e1 e2;injection e2 with e2 e3;subst e1 e2 e3
   (try simp only[gX,h1,h2])
   exact⟨he,hk _ _ _ (PLe.refl _) hr (.str (s:=[]) (fun _ hx=>by cases hx))⟩
  ·cases e
 ·rename_i el b o len c k h1 h2;obtain⟨p,C,hp,rfl,_,_⟩:=hx.eo;split at e
  ·rename_i l z he hb;obtain⟨ob,hB,hf,c',ty,fz,rfl,_,_,_,_,h5⟩:=hr.of hb hp;simp only[Option.map_eq_some_iff,Option.bind_eq_some_iff,Prod.mk.injEq]at e;obtain⟨s,⟨l',e1,e2⟩,rfl,rfl,rfl⟩:=e;obtain⟨vs,g1,g2⟩:=h5.sub e1;obtain⟨g3,g4⟩:=k8 l' s vs g2 e2;simp only[gX,h1,h2,hf,g1,Option.bind_some,g3];exact⟨he,hk _ _ _ (PLe.refl _) hr (.str g4)⟩
  ·cases e
 ·cases e
theorem nQ (hr:HR φ H n h0 h) {t:TypeId} {x y:AV} {xv yv:Value} (hx:VR φ x xv) (hy:VR φ y yv) (e:uK P t x y H n=some (r,H',n')) (hk:pK φ h0 r H' n' K):ux P t xv yv h K:=by
 unfold uK at e;split at e
 ·rename_i el k1 l k2 c hu;rw[hx.bV,hy.bV];split at e
  ·rename_i k by' z hs hb hz;split at e
   ·rename_i hc;obtain⟨g1,g2,g3,g4⟩:=hc;injection e with e;injection e with e1 e2;injection e2 with e2 e3;subst e1 e2 e3
    (try simp only[ux,hu,hs,hb,hz])
    have hb2:(by':Int)*Int.ofNat c<=281474976710656:=by
     have:((by'*c:Nat):Int)<=281474976710656:=by omega
     rwa [Int.natCast_mul]at this
    refine⟨by simp only[Int.ofNat_eq_natCast];omega,by simp only[Int.ofNat_eq_natCast];omega,hb2,by simp only[Int.ofNat_eq_natCast];omega,?_⟩;rw[show(Int.ofNat l).toNat=l from rfl,show(Int.ofNat c).toNat=c from rfl];have hcp:madeCells z.cells (c*k)=(cI z.cells.toList c).toArray:=by rw[<-g4];exact iP _ _
    rw[hcp];have hv:=rS (lK φ z) c;have hl:=hv.length
    have ho:OR (ez φ n ⟨h.n,0,(cI z.cells.toList c).length⟩) ⟨h.n,0,(cI z.cells.toList c).length⟩ (.cells (iB (ofV z).cells c) true) (.cells (cI z.cells.toList c).toArray el (0,0)):=
     ⟨_,el,_,rfl,by simp only;omega,by simp,iO _ _,fun _=>rfl,CR.mono (hr.ple _) (CR.of' (by simpa using hv))⟩
    exact hk _ (.slice (some ⟨h.n,0+0,none⟩) l c) _ (hr.ple _) (hr.new ho aa) (.sl (bw _ _ _) (fun _=>rfl) (fun q=>(q rfl).elim))
   ·cases e
  ·cases e
 ·cases e
theorem xm (hr:HR φ H n h0 h) {k m:Nat} {x:AV} {xv:Value} {l:List AV} (hx:VR φ x xv) (e:Ni H k x=some (m,l)):∃vs,bP h k xv=some (m,vs)/\VRs φ l vs:=by
 unfold Ni at e;split at e
 ·rw[hx.cP];injection e with e;injection e with e1 e2;subst e1 e2;exact⟨[],rfl,.nil⟩
 ·rename_i b o m' c k';obtain⟨p,C,hp,rfl,_,_⟩:=hx.eo;split at e
  ·rename_i l' z hb;obtain⟨ob,hB,hf,c',ty,fz,rfl,_,_,_,_,h5⟩:=hr.of hb hp;simp only[Option.map_eq_some_iff,Prod.mk.injEq]at e;obtain⟨l2,e1,rfl,rfl⟩:=e;obtain⟨vs,g1,g2⟩:=h5.sub e1;exact⟨vs,by simp only[bP,hf,g1,Option.map_some],g2⟩
  ·rename_i l' hb;obtain⟨ob,hB,hf,c',ty,fz,rfl,_,_,h5⟩:=hr.of hb hp;simp only[Option.map_eq_some_iff,Prod.mk.injEq]at e;obtain⟨l2,e1,rfl,rfl⟩:=e;obtain⟨vs,g1,g2⟩:=h5.sub e1;exact⟨vs,by simp only[bP,hf,g1,Option.map_some],g2⟩
  ·cases e
 ·rename_i b;obtain⟨p,y,C,hp,rfl,_⟩:=hx.jU;split at e
  ·rename_i l' z hb;obtain⟨ob,hB,hf,c',ty,fz,rfl,_,_,_,_,h5⟩:=hr.of hb hp;injection e with e;injection e with e1 e2;subst e1 e2;exact⟨[],by simp only[bP,hf,Nat.zero_mul,cG,Option.map_some],.nil⟩
  ·cases e
 ·rename_i s;obtain⟨rfl,hs⟩:=hx.cr;injection e with e;injection e with e1 e2;subst e1 e2;refine⟨_,by simp only[bP,ia];rfl,?_⟩;rw[ly hs];exact VRs.bytes _ _
 ·cases e
theorem lz (hr:HR φ H n h0 h) {t u:TypeId} {s x:AV} {sv xv:Value} (hs:VR φ s sv) (hx:VR φ x xv) (e:qz P t u s x H n=some (r,H',n')) (hk:pK φ h0 r H' n' K):iy P t u sv xv h (rF K):=by
 have wk:∀v g,K v g->rF K v g:=fun v g k=>⟨g,Sub.refl _,k⟩
 unfold qz at e;split at e
 case h_2=>cases e
 rename_i el ud hu hud;split at e
 case h_1=>cases e
 case h_3=>cases e
 rename_i ud2 _ _ _ _ k by' z hni hsz hbz hzz;have hni':∀q,ud2≠ .int q:=fun q h=>hni q h
 split at e
 case h_2=>cases e
 rename_i m new hsrc;split at e
 case isFalse=>cases e
 rename_i hc;obtain⟨c1,c2,c3,c4,c5⟩:=hc;obtain⟨nv,hn1,hn2⟩:=xm hr hx hsrc;have hnl:=hn2.length;have hone:=lM hn2 c5;have hcpl:∀q,(cI z.cells.toList q).length=q*k:=fun q=>by rw[lu];simp[c1]
 have grow:∀(old:List AV) (ov:List Value) (sn:Nat) (zz:Bool) (d:Nat) (G:AH) (ψ:Ph),ψ=φ->HR φ G n h0 h->VRs φ old ov->ov.length=sn*k->r= .sl n 0 (sn+m) (sn+m) k->H'=G.set (some (.cells (old++new) zz)) aa n->n'=n+1->ES el z (sn+m) ov nv h (rF K):=by
  intro old ov sn zz d G ψ hψ hG ho hol hre hHe hne cap hcap;subst hre hHe hne;refine wk _ _ ?_
  have hlen:(ov++(nv++cI z.cells.toList (cap-(sn+m)))).length=cap*k:=by
   simp only[List.length_append,hol,<-hnl,c4,hcpl];rw[<-Nat.add_mul,<-Nat.add_mul];congr 1;omega
  have hor:OR (ez φ n ⟨h.n,0,cap*k⟩) ⟨h.n,0,cap*k⟩ (.cells (old++new) zz) (.cells (ov++(nv++cI z.cells.toList (cap-(sn+m)))).toArray el (0,0)):=by
   refine⟨_,el,_,rfl,?_,by simp only[List.size_toArray,hlen];omega,iO _ _,fun _=>rfl,?_⟩
   ·have:=ho.length;simp only[List.length_append,c4,this,hol];rw[<-Nat.add_mul];exact Nat.mul_le_mul_right k hcap
   ·rw[<-List.append_assoc];exact CR.mono (hG.ple _) (CR.of (ho.append hn2) _)
  have:=hk _ (.slice (some ⟨h.n,0+0,none⟩) (sn+m) cap) _ (hG.ple _) (hG.new hor aa) (.sl (bw _ _ _) (fun q=>by omega) (fun _=>⟨hcap,by simp⟩));exact this
 have fin:∀{base:Option Addr} {sLen jH:Nat},(sLen+m<=jH->sV base k sLen m jH nv h (rF K))->(jH<sLen+m->(sLen+m)*by'<=140737488355328/\∃old,bP h k (.slice base sLen jH)=some (sLen,old)/\ES el z (sLen+m) old nv h (rF K))->iy P t u (.slice base sLen jH) xv h (rF K):=fun a b=>
  ⟨el,ud2,k,by',z,m,nv,hu,hud,hni',hsz,hbz,hzz,c1,c2,hn1,a,b⟩
 split at e
 ·
  rw[hs.cP];split at e
  ·injection e with e;injection e with e1 e2;injection e2 with e2 e3;subst e1 e2 e3;refine fin (fun _=>wk _ _ ?_) (fun q=>by omega);exact hk _ _ _ (PLe.refl _) hr .nsl
  ·rename_i hm0;split at e
   ·rename_i hby;injection e with e;injection e with e1 e2;injection e2 with e2 e3;refine fin (fun q=>?_) (fun _=>⟨by simpa using hby,[],rfl,?_⟩)
    ·have:m=0:=by omega
     exact(hm0 this).elim
    ·exact grow [] [] 0 true aa H φ rfl hr .nil (by simp) (by rw[<-e1];simp) (by rw[<-e2];simp) e3.symm
   ·cases e
 ·rename_i b o sn c sk;obtain⟨p,C,hp,rfl,hC0,hC1⟩:=hs.eo
  have hcC:c<=C:=by
   by_cases q:sk=0
   ·rw[hC0 q];omega
   ·exact(hC1 q).1
  split at e
  case h_2=>cases e
  rename_i l z' hb;obtain⟨ob,hB,hf,cc,ty,fz,rfl,h1,h2,h3,h4,h5⟩:=hr.of hb hp;split at e
  ·rename_i hle;split at e
   ·rename_i l' hset;obtain⟨g1,g2,g3⟩:=gZ _ _ _ _ hset;injection e with e;injection e with e1 e2;injection e2 with e2 e3;subst e1 e2 e3;refine fin (fun _=>?_) (fun q=>by omega)
    (try simp only[sV,hf])
    refine⟨hone,by omega,h3.sub (by omega),wk _ _ ?_⟩;refine hk _ _ _ (PLe.refl _) (hr.put hb hp ?_ aa) (.sl hp hC0 hC1);refine⟨_,ty,fz,rfl,by omega,by rw[eI];omega,h3,h4,?_⟩;rw[Nat.add_assoc];exact h5.set hset hn2 (by omega)
   ·cases e
  ·rename_i hgt;split at e
   case isFalse=>cases e
   rename_i hby;split at e
   ·rename_i old hold;injection e with e;injection e with e1 e2;injection e2 with e2 e3;obtain⟨ov,g1,g2⟩:=h5.sub hold
    have hol:ov.length=sn*k:=by
     have:=g2.length;obtain⟨q1,rfl⟩:=bu hold;rw[<-this];simp;omega
    have:=hC0 rfl
    refine fin (fun q=>by omega) (fun _=>⟨hby,ov,by simp only[bP,hf,g1,Option.map_some],?_⟩);exact grow old ov sn true aa H φ rfl hr g2 hol e1.symm e2.symm e3.symm
   ·rename_i old sk' hold;split at e
    case isFalse=>cases e
    rename_i hsk;obtain⟨_,hT⟩:=hC1 (by omega);rw[hsk]at hT;injection e with e;injection e with e1 e2;injection e2 with e2 e3;obtain⟨ov,g1,g2⟩:=h5.sub hold;obtain⟨q1,hold2⟩:=bu hold;have hol2:old.length=sn*k:=by subst hold2;simp;omega
    have hol:ov.length=sn*k:=by
     have:=g2.length;omega
    refine fin (fun hstay=>?_) (fun _=>⟨hby,ov,by simp only[bP,hf,g1,Option.map_some],?_⟩)
    ·subst e1 e2 e3
     (try simp only[sV,hf])
     have hCk:(sn+m)*k<=C*k:=Nat.mul_le_mul_right k hstay;have hadd:(sn+m)*k=sn*k+m*k:=Nat.add_mul _ _ _;refine⟨hone,by omega,h3.sub (by omega),wk _ _ ?_⟩
     have hor:OR (ez φ n ⟨p.B,p.s+o,C*k⟩) ⟨p.B,p.s+o,C*k⟩ (.cells (old++new) z') (.cells (dL cc (p.s+o+sn*k) nv) ty fz):=by
      refine⟨_,ty,fz,rfl,by simp only[List.length_append];omega,by rw[eI];simp only;omega,h3.sub (by simp only;omega),h4,CR.mono (hr.ple _) (CR.append ?_ ?_)⟩
      ·subst hold2;exact CR.kept (CR.drop h5) (by simp only;omega)
      ·simp only;rw[hol2];exact CR.wrote hn2 (by omega)
     have:=hk _ (.slice (some ⟨p.B,p.s+o+0,none⟩) (sn+m) C) _ (hr.ple _) (hr.rename (q:=⟨p.B,p.s+o,C*k⟩) hb hp rfl hor aa aa) (.sl (p:=⟨p.B,p.s+o,C*k⟩) (bw _ _ _) (fun q=>by omega) (fun _=>⟨hstay,by simp⟩));exact this
    ·exact grow old ov sn z' aa _ φ rfl (hr.kill aa b) g2 hol e1.symm e2.symm e3.symm
   ·cases e
 ·cases e
theorem Dp {x:AV} {v:Value} {m:Nat} (hx:VR φ x v) (e:EV x=some m):Jj v=some m:=by
 unfold EV at e;split at e
 ·rw[hx.cP];exact e
 ·obtain⟨p,C,_,rfl,_⟩:=hx.eo;exact e
 ·obtain⟨p,y,C,_,rfl,_⟩:=hx.jU;exact e
 ·obtain⟨rfl,_⟩:=hx.cr;simp only[Jj,ia];exact e
 ·cases e
theorem AQ (hr:HR φ H n h0 h) {k q:Nat} {x:AV} {xv:Value} {l:List AV} (hx:VR φ x xv) (e:Dk H k q x=some l):∃vs,km h k q xv=some vs/\VRs φ l vs:=by
 unfold Dk at e;split at e
 ·rw[hx.cP];injection e with e;subst e;exact⟨[],rfl,.nil⟩
 ·rename_i b o m' c k';obtain⟨p,C,hp,rfl,_,_⟩:=hx.eo;split at e
  ·rename_i l' z hb;obtain⟨ob,hB,hf,c',ty,fz,rfl,_,_,_,_,h5⟩:=hr.of hb hp;obtain⟨vs,g1,g2⟩:=h5.sub e;exact⟨vs,by simp only[km,hf,g1],g2⟩
  ·rename_i l' hb;obtain⟨ob,hB,hf,c',ty,fz,rfl,_,_,h5⟩:=hr.of hb hp;obtain⟨vs,g1,g2⟩:=h5.sub e;exact⟨vs,by simp only[km,hf,g1],g2⟩
  ·cases e
 ·rename_i b;obtain⟨p,y,C,hp,rfl,_⟩:=hx.jU;split at e
  ·rename_i l' z hb;obtain⟨ob,hB,hf,c',ty,fz,rfl,_,_,_,_,h5⟩:=hr.of hb hp;injection e with e;subst e;exact⟨[],by simp only[km,hf,Nat.zero_mul,cG],.nil⟩
  ·rename_i l' hb;obtain⟨ob,hB,hf,c',ty,fz,rfl,_,_,h5⟩:=hr.of hb hp;injection e with e;subst e;exact⟨[],by simp only[km,hf,Nat.zero_mul,cG],.nil⟩
  ·cases e
 ·rename_i s;obtain⟨rfl,hs⟩:=hx.cr;injection e with e;subst e;refine⟨_,rfl,?_⟩;rw[cS,<-List.map_take,List.map_map];have:((fun b:UInt8=>Value.int .u8 (b.toNat:Int))∘UInt8.ofNat)=fun c:Nat=>Value.int .u8 ((UInt8.ofNat c).toNat:Int):=rfl
  rw[this]
  have h2:((s.take q).map fun c:Nat=>Value.int .u8 ((UInt8.ofNat c).toNat:Int))=(s.take q).map fun c:Nat=>Value.int .u8 (Int.ofNat c):=List.map_congr_left fun c hc=>by
   rw[UInt8.toNat_ofNat',Nat.mod_eq_of_lt (hs c (List.mem_of_mem_take hc))];rfl
  rw[h2];exact VRs.bytes _ _
 ·cases e
theorem nR (hr:HR φ H n h0 h) {t:TypeId} {d x:AV} {dv xv:Value} (hd:VR φ d dv) (hx:VR φ x xv) (e:AJ P t d x H n=some (r,H',n')) (hk:pK φ h0 r H' n' K):nz P t dv xv h K:=by
 unfold AJ at e;split at e
 ·rename_i el m dn hu hm hdn;split at e
  ·rename_i k hs;split at e
   ·rename_i cells hcells;obtain⟨vs,g1,g2⟩:=AQ hr hx hcells;have hlx:=Dp hx hm;split at e
    ·have:dn=0:=by injection hdn with hdn;exact hdn.symm
     subst this;rw[hd.cP];injection e with e;injection e with e1 e2;injection e2 with e2 e3;subst e1 e2 e3
     (try simp only[nz,hu,hlx,hs,g1])
     exact hk _ _ _ (PLe.refl _) hr (.int _ _)
    ·rename_i b;have:dn=0:=by injection hdn with hdn;exact hdn.symm
     subst this;obtain⟨p,y,C,hp,rfl,hy1,hy2⟩:=hd.jU;split at e
     ·rename_i l z hb;obtain⟨ob,hB,hf,cc,ty,fz,rfl,h1,h2,h3,h4,h5⟩:=hr.of hb hp;rw[g2.aM]at g1;injection e with e;injection e with e1 e2;injection e2 with e2 e3;subst e1 e2 e3
      (try simp only[nz,hu,hlx,hs,g1,hf])
      refine⟨rfl,by simp only[List.length_nil];omega,h3.sub (by simp only[List.length_nil];omega),?_⟩;exact hk _ _ _ (PLe.refl _) (hr.put hb hp (show OR φ p (.cells l z) (.cells cc ty fz) from⟨cc,ty,fz,rfl,h1,h2,h3,h4,h5⟩) aa) (.int _ _)
     ·cases e
    ·rename_i b o dm c k';have:dn=dm:=by injection hdn with hdn;exact hdn.symm
     subst this;obtain⟨p,C,hp,rfl,_,_⟩:=hd.eo;split at e
     ·rename_i l z hb;obtain⟨ob,hB,hf,cc,ty,fz,rfl,h1,h2,h3,h4,h5⟩:=hr.of hb hp;split at e
      ·rename_i l' hset hall;obtain⟨q1,q2,q3⟩:=gZ _ _ _ _ hset;have hgl:=g2.length;injection e with e;injection e with e1 e2;injection e2 with e2 e3;subst e1 e2 e3
       (try simp only[nz,hu,hlx,hs,g1,hf])
       refine⟨lM g2 hall,by omega,h3.sub (by omega),?_⟩;refine hk _ _ _ (PLe.refl _) (hr.put hb hp ?_ aa) (.int _ _);exact⟨_,ty,fz,rfl,by omega,by rw[eI];omega,h3,h4,h5.set hset g2 (by omega)⟩
      ·cases e
     ·cases e
    ·cases e
   ·cases e
  ·cases e
 ·cases e
theorem Dq {k v:AV} {kv vv:Value} (hk':VR φ k kv) (hv:VR φ v vv):∀(es:List (AV×AV)) (ms:List MapEntry) (q:Option (Nat×AV)) (q':Option (Nat×Value)) (cl:Nat),MR φ es ms->uN ms cl->(match q,q' with
 |none,none=>True
 |some (j,_),some (j',_)=>j=j'
 |_,_=>False)->∃ms' cl',Jk kv vv ms cl q'= .map ms' cl'/\MR φ (kX k v es q) ms'.toList/\uN ms'.toList cl':=by
 have app:∀(es:List (AV×AV)) (ms:List MapEntry) (m:MapEntry),MR φ es ms->VR φ k m.key->VR φ v m.val->MR φ (es++ [(k,v)]) (ms++ [m]):=by
  intro es
  induction es with
  |nil=>intro ms m hm h1 h2;rw[show ms=[] from hm];exact⟨m,[],rfl,h1,h2,rfl⟩
  |cons x es ih=>
   intro ms m ⟨m',us,h1,h2,h3,h4⟩ h5 h6;subst h1;exact⟨m',us++ [m],rfl,h2,h3,ih us m h4 h5 h6⟩
 have chg_:∀(es:List (AV×AV)) (ms:List MapEntry) (i:Nat) (u:AV),MR φ es ms->MR φ (kX k v es (some (i,u))) (chg kv vv ms i):=by
  intro es
  induction es with
  |nil=>intro ms i u hm;rw[show ms=[] from hm];cases i<;>rfl
  |cons x es ih=>
   intro ms i u ⟨m',us,h1,h2,h3,h4⟩;subst h1;cases i with
   |zero=>exact⟨_,us,rfl,hk',hv,h4⟩
   |succ i=>exact⟨m',_,rfl,h2,h3,ih us i u h4⟩
 have stm:∀(ms:List MapEntry) (i:Nat) (cl:Nat),uN ms cl->uN (chg kv vv ms i) cl:=by
  intro ms i cl h;rw[<-CZ];refine⟨by rw[List.length_modify];exact h.1,fun j e hj=>?_⟩;rw[List.getElem?_modify]at hj;cases hm:ms[j]? with
  |none=>rw[hm]at hj;simp at hj
  |some m=>
   have hb:=h.2 j m hm;rw[hm]at hj;by_cases q:i=j
   ·simp[q]at hj;subst hj;exact hb
   ·simp[q]at hj;subst hj;exact hb
 intro es ms q q' cl hm hst hq;cases q with
 |none=>
  cases q' with
  |some x=>exact hq.elim
  |none=>
   refine⟨_,_,rfl,?_,hst.push rfl⟩;have:kX k v es none=es++ [(k,v)]:=by cases es<;>rfl
   rw[this];exact app es ms _ hm hk' hv
 |some y=>
  cases q' with
  |none=>exact hq.elim
  |some x=>
   obtain⟨j,a⟩:=y;obtain⟨j',a'⟩:=x;have:j=j':=hq;subst this;exact⟨_,_,rfl,chg_ es ms j a hm,stm ms j cl hst⟩
theorem Dr {k v:AV} {kv vv:Value} (hk':VR φ k kv) (hv:VR φ v vv):∀(es:List (AV×AV)) (ms:List MapEntry) (cl:Nat),MR φ es ms->MR φ (kX k v es none) (ms++ [({key:=kv,val:=vv,born:=cl}:MapEntry)]).toArray.toList/\((ms++ [({key:=kv,val:=vv,born:=cl}:MapEntry)]).toArray.toList.map fun x=>x.born)=(ms.map fun x=>x.born)++ [cl]:=fun es ms cl hm=>by
 have app:∀(es:List (AV×AV)) (ms:List MapEntry) (m:MapEntry),MR φ es ms->VR φ k m.key->VR φ v m.val->MR φ (es++ [(k,v)]) (ms++ [m]):=by
  intro es
  induction es with
  |nil=>intro ms m hm h1 h2;rw[show ms=[] from hm];exact⟨m,[],rfl,h1,h2,rfl⟩
  |cons x es ih=>
   intro ms m ⟨m',us,h1,h2,h3,h4⟩ h5 h6;subst h1;exact⟨m',us++ [m],rfl,h2,h3,ih us m h4 h5 h6⟩
 have:kX k v es none=es++ [(k,v)]:=by cases es<;>rfl
 rw[this];exact⟨app es ms _ hm hk' hv,by simp⟩
theorem Dt {k v:AV} {kv vv:Value} (hk':VR φ k kv) (hv:VR φ v vv):∀(es:List (AV×AV)) (ms:List MapEntry) (i:Nat) (u:AV),MR φ es ms->MR φ (kX k v es (some (i,u))) (chg kv vv ms i).toArray.toList/\((chg kv vv ms i).toArray.toList.map fun x=>x.born)=ms.map fun x=>x.born:=by
 intro es
 induction es with
 |nil=>intro ms i u hm;rw[show ms=[] from hm];cases i<;>exact⟨rfl,rfl⟩
 |cons x es ih=>
  intro ms i u ⟨m',us,h1,h2,h3,h4⟩;subst h1;cases i with
  |zero=>exact⟨⟨_,us,rfl,hk',hv,h4⟩,rfl⟩
  |succ i=>
   obtain⟨g1,g2⟩:=ih us i u h4
   exact⟨⟨m',_,rfl,h2,h3,g1⟩,by
    show m'.born::_=m'.born::_;exact congrArg _ g2⟩
theorem jk (hr:HR φ H n h0 h) {t:TypeId} {m k v:AV} {mv kv vv:Value} (hm:VR φ m mv) (hk':VR φ k kv) (hv:VR φ v vv) (e:kY P t m k v H n=some (r,H',n')) (hk:pK φ h0 r H' n' K):ji P t mv kv vv h K:=by
 unfold kY at e;split at e
 ·rename_i b kt kd et hmk;obtain⟨p,hp,rfl⟩:=hm.kZ;split at e
  ·rename_i es hb;obtain⟨ob,hB,hf,ms,cl,rfl,h1,hst⟩:=hr.of hb hp;split at e
   ·rename_i q hq;obtain⟨q',g1,g2⟩:=gJ hk' es ms.toList 0 q h1 hq
    obtain⟨ms',cl',g3,g4,g5⟩:=Dq hk' hv es ms.toList q q' cl h1 hst (by
     cases q<;>cases q'<;>first|trivial|exact g2.elim|exact g2.1)
    injection e with e;injection e with e1 e2;injection e2 with e2 e3;subst e1 e2 e3;simp only[ji,qs,hf,hmk,Option.bind_some,g1,Option.map_some,g3];exact hk _ _ _ (PLe.refl _) (hr.put hb hp (show OR φ p (.map _) (.map ms' cl') from⟨ms',cl',rfl,g4,g5⟩) aa) .undef
   ·cases e
  ·rename_i es bs cl hb;obtain⟨ob,hB,hf,ms,rfl,h1,hbs⟩:=hr.of hb hp;split at e
   ·rename_i hq;obtain⟨q',g1,g2⟩:=gJ hk' es ms.toList 0 none h1 hq;cases q' with
    |some x=>exact g2.elim
    |none=>
     injection e with e;injection e with e1 e2;injection e2 with e2 e3;subst e1 e2 e3;obtain⟨g3,g4⟩:=Dr hk' hv es ms.toList cl h1;simp only[ji,qs,hf,hmk,Option.bind_some,g1,Option.map_some];exact hk _ _ _ (PLe.refl _) (hr.put hb hp (show OR φ p (.mp _ _ _) (.map _ (cl+1)) from⟨_,rfl,g3,by rw[g4,hbs]⟩) aa) .undef
   ·rename_i y hq;obtain⟨q',g1,g2⟩:=gJ hk' es ms.toList 0 (some y) h1 hq;cases q' with
    |none=>exact g2.elim
    |some x=>
     obtain⟨j,a⟩:=y;obtain⟨j',a'⟩:=x;have:=g2.1;subst this;injection e with e;injection e with e1 e2;injection e2 with e2 e3;subst e1 e2 e3;obtain⟨g3,g4⟩:=Dt hk' hv es ms.toList j a h1;simp only[ji,qs,hf,hmk,Option.bind_some,g1,Option.map_some];exact hk _ _ _ (PLe.refl _) (hr.put hb hp (show OR φ p (.mp _ _ _) (.map _ cl) from⟨_,rfl,g3,by rw[g4,hbs]⟩) aa) .undef
   ·cases e
  ·cases e
 ·cases e
theorem MR.erase {φ:Ph}:∀{es:List (AV×AV)} {ms:List MapEntry},MR φ es ms->∀i,MR φ (es.eraseIdx i) (ms.eraseIdx i)
 | [],ms,h,i=>by rw[show ms=[] from h];exact rfl
 |e::es,ms,⟨m,us,h1,h2,h3,h4⟩,0=>by subst h1;exact h4
 |e::es,ms,⟨m,us,h1,h2,h3,h4⟩,i+1=>by subst h1;exact⟨m,_,rfl,h2,h3,MR.erase h4 i⟩
theorem rT {α β:Type} (f:α->β):∀(l:List α) (i:Nat),(l.eraseIdx i).map f=(l.map f).eraseIdx i
 | [],i=>rfl
 |a::l,0=>rfl
 |a::l,i+1=>congrArg (f a::·) (rT f l i)
theorem pM (hr:HR φ H n h0 h) {t:TypeId} {m k:AV} {mv kv:Value} (hm:VR φ m mv) (hk':VR φ k kv) (e:Dl P t m k H n=some (r,H',n')) (hk:pK φ h0 r H' n' K):mw P t mv kv h K:=by
 unfold Dl at e;split at e
 ·rename_i b kt kd et hmk;obtain⟨p,hp,rfl⟩:=hm.kZ;split at e
  ·rename_i es bs cl hb;obtain⟨ob,hB,hf,ms,rfl,h1,hbs⟩:=hr.of hb hp;split at e
   ·rename_i hq;obtain⟨q',g1,g2⟩:=gJ hk' es ms.toList 0 none h1 hq;cases q' with
    |some x=>exact g2.elim
    |none=>
     injection e with e;injection e with e1 e2;injection e2 with e2 e3;subst e1 e2 e3;simp only[mw,tJ,hf,hmk,Option.bind_some,g1,Option.map_some];exact hk _ _ _ (PLe.refl _) (hr.put hb hp (show OR φ p (.mp _ _ _) (.map _ cl) from⟨_,rfl,h1,hbs⟩) aa) (.tup .nil)
   ·rename_i i a hq;obtain⟨q',g1,g2⟩:=gJ hk' es ms.toList 0 (some (i,a)) h1 hq;cases q' with
    |none=>exact g2.elim
    |some x=>
     obtain⟨j',a'⟩:=x;have:=g2.1;subst this;injection e with e;injection e with e1 e2;injection e2 with e2 e3;subst e1 e2 e3;simp only[mw,tJ,hf,hmk,Option.bind_some,g1,Option.map_some];exact hk _ _ _ (PLe.refl _) (hr.put hb hp (show OR φ p (.mp _ _ _) (.map _ cl) from⟨_,rfl,h1.erase i,by show((ms.toList.eraseIdx i).map fun x=>x.born)=_;rw[rT,hbs]⟩) aa) (.tup .nil)
   ·cases e
  ·cases e
 ·cases e
theorem yM (hr:HR φ H n h0 h) {t:TypeId} {x:AV} {v:Value} (hx:VR φ x v) (e:Dm P t x H n=some (r,H',n')) (hk:pK φ h0 r H' n' K):yu P t v h K:=by
 unfold Dm at e;split at e
 ·rename_i b;obtain⟨p,hp,rfl⟩:=hx.kZ;split at e
  ·rename_i es hb ht;obtain⟨ob,hB,hf,ms,cl,rfl,h1,h2,_⟩:=hr.of hb hp;injection e with e;injection e with e1 e2;injection e2 with e2 e3;subst e1 e2 e3;refine⟨ht,?_⟩
   (try simp only[hf])
   have hl:cl=es.length:=h2.trans h1.length.symm;subst hl;have ho:OR (ez φ n ⟨h.n,0,0⟩) ⟨h.n,0,0⟩ (.iter b es.length []) (.mapIter (some p.B) es.length #[] es.length):=⟨rfl,p,hr.ple _ _ _ hp,rfl⟩;exact hk _ (.pointer (some ⟨h.n,0+0,none⟩)) _ (hr.ple _) (hr.new ho aa) (.ptr (bw _ _ _))
  ·rename_i es bs cl hb ht;obtain⟨ob,hB,hf,ms,rfl,h1,h2⟩:=hr.of hb hp;injection e with e;injection e with e1 e2;injection e2 with e2 e3;subst e1 e2 e3;refine⟨ht,?_⟩
   (try simp only[hf])
   have ho:OR (ez φ n ⟨h.n,0,0⟩) ⟨h.n,0,0⟩ (.iter b cl []) (.mapIter (some p.B) cl #[] cl):=⟨rfl,p,hr.ple _ _ _ hp,rfl⟩;exact hk _ (.pointer (some ⟨h.n,0+0,none⟩)) _ (hr.ple _) (hr.new ho aa) (.ptr (bw _ _ _))
  ·cases e
 ·cases e
end
def COk (P:Program) (f:FuncId) (g:List AV->AH->Nat->AR):Prop:=∀(args:List AV) (H:AH) (n:Nat) (v:AV) (H':AH) (n':Nat),g args H n=some (v,H',n')->
 ∀(φ:Ph) (h0 h:Hp) (vs:Array Value) (K:KH),HR φ H n h0 h->VRs φ args vs.toList->pK φ h0 v H' n' K->dj P f vs h K
section
variable {P:Program} {call:AC} {φ:Ph} {H H':AH} {n n':Nat} {h0 h:Hp} {K:KH} {σ:AE} {ρ:Env} {r:AV}
theorem AS (hcall:∀f,COk P f (call f)) (hr:HR φ H n h0 h) (hf:FR φ σ ρ) {o:Op} (e:EW P call o σ H n=some (r,H',n')) (hk:pK φ h0 r H' n' K):bE P o ρ h K:=by
 have quiet:∀{o:Op},bM o=false->(match qy P o σ H with
  |some v=>some (v,H,n)
  |none=>none)=some (r,H',n')->bE P o ρ h K:=fun{o} hl e=>by
  unfold bE;rw[hl];simp only[Bool.false_eq_true,if_false];split at e
  ·rename_i v hv;injection e with e;injection e with e1 e2;injection e2 with e2 e3;subst e1 e2 e3;exact s7 hr hf hv fun u hu=>hk φ u h (PLe.refl _) hr hu
  ·cases e
 unfold EW at e;split at e
 ·rename_i el;split at e
  ·rename_i z hz;show pB P el h K;unfold pB
   (try simp only[hz])
   exact uT hr (lK φ z) e hk
  ·cases e
 ·rename_i el x;split at e
  ·rename_i hc;show G2 el (ρ.ev x).cells h K;exact uT hr ((hf.ev x).cells hc) e hk
  ·cases e
 ·rename_i t len parts;split at e
  ·rename_i l hl;obtain⟨el,r',h1,h2⟩:=yL hf hl;injection e with e;injection e with e1 e2;injection e2 with e2 e3;subst e1 e2 e3
   show(match dB P t len (parts.toList.map fun x=>(x.1,ρ.ev x.2))with
    |some (e,r)=>K (.slice (some ⟨h.n,0,none⟩) len len) ((h.put h.n (.cells r e (0,0))).to (h.n+1))
    |none=>False)
   rw[h1];have hll:l.length=r'.size:=by simpa using h2.length
   have ho:OR (ez φ n ⟨h.n,0,r'.size⟩) ⟨h.n,0,r'.size⟩ (.cells l true) (.cells r' el (0,0)):=
    ⟨r',el,(0,0),rfl,by simp only;omega,by simp only;omega,iO _ _,fun _=>rfl,CR.mono (hr.ple _) (CR.of' h2)⟩
   exact hk _ (.slice (some ⟨h.n,0+0,none⟩) len len) _ (hr.ple _) (hr.new ho aa) (.sl (bw _ _ _) (fun _=>rfl) (fun q=>(q rfl).elim))
  ·cases e
 ·exact qB hr (hf.ev _) (hf.ev _) e hk
 ·exact nP hr (hf.ev _) e hk
 ·exact nQ hr (hf.ev _) (hf.ev _) e hk
 ·rename_i t;injection e with e;injection e with e1 e2;injection e2 with e2 e3;subst e1 e2 e3;show K (.map (some h.n)) ((h.put h.n (.map #[] 0)).to (h.n+1));have ho:OR (ez φ n ⟨h.n,0,0⟩) ⟨h.n,0,0⟩ (.map []) (.map #[] 0):=⟨#[],0,rfl,rfl,.nil⟩;exact hk _ _ _ (hr.ple _) (hr.new ho aa) (.map (bw _ _ _))
 ·exact jk hr (hf.ev _) (hf.ev _) (hf.ev _) e hk
 ·exact jk hr (hf.ev _) (hf.ev _) (hf.ev _) e hk
 ·exact yM hr (hf.ev _) e hk
 ·rename_i c;have hm:=VRs.map hf.ev c.args.toList;obtain⟨callee,args,ats⟩:=c;dsimp only at e hm;split at e
  ·rename_i f;have hfv:=hf.ev f;split at e
   ·rename_i g a cs q;rw[q]at hfv;obtain⟨a',c',hv,h1,h2⟩:=hfv.mF;show w9 P (ρ.ev f) (args.map ρ.ev) h K;rw[hv];show dj P g (a'++args.map ρ.ev++c') h K;refine hcall g _ _ _ _ _ _ e φ h0 h _ K hr ?_ hk;rw[Array.toList_append,Array.toList_append,Array.toList_map];exact(h1.append hm).append h2
   ·cases e
  ·show iz P .append ats.toList (args.toList.map ρ.ev) h K;split at e
   ·rename_i t u s x e1 e2;rw[e2]at hm;obtain⟨v1,us,h1,h2,h3⟩:=hm.cons_inv;obtain⟨v2,ws,h4,h5,h6⟩:=h3.cons_inv;rw[h4,h6.aM]at h1;rw[e1,h1];exact lz hr h2 h5 e hk
   ·cases e
  ·show iz P .copy ats.toList (args.toList.map ρ.ev) h K;split at e
   ·rename_i t u s x e1 e2;rw[e2]at hm;obtain⟨v1,us,h1,h2,h3⟩:=hm.cons_inv;obtain⟨v2,ws,h4,h5,h6⟩:=h3.cons_inv;rw[h4,h6.aM]at h1;rw[e1,h1];exact nR hr h2 h5 e hk
   ·cases e
  ·show iz P .delete ats.toList (args.toList.map ρ.ev) h K;split at e
   ·rename_i t u s x e1 e2;rw[e2]at hm;obtain⟨v1,us,h1,h2,h3⟩:=hm.cons_inv;obtain⟨v2,ws,h4,h5,h6⟩:=h3.cons_inv;rw[h4,h6.aM]at h1;rw[e1,h1];exact pM hr h2 h5 e hk
   ·cases e
  ·rename_i q1 q2 q3 q4;cases callee with
   |value f=>exact(q1 f rfl).elim
   |invoke _ _=>exact quiet rfl e
   |builtin b=>cases b<;>first|exact quiet rfl e|exact(q2 rfl).elim|exact(q3 rfl).elim|exact(q4 rfl).elim
 ·rename_i q1 q2 q3 q4 q5 q6 q7 q8 q9 q11 q10;cases o
  case alloc=>exact(q1 _ rfl).elim
  case box=>exact(q2 _ _ rfl).elim
  case buildSlice=>exact(q3 _ _ _ rfl).elim
  case store=>exact(q4 _ _ _ rfl).elim
  case convert=>exact(q5 _ _ _ rfl).elim
  case makeSlice=>exact(q6 _ _ _ rfl).elim
  case mapUpdate=>exact(q8 _ _ _ _ rfl).elim
  case insert=>exact(q9 _ _ _ _ rfl).elim
  case range=>exact(q11 _ _ rfl).elim
  case next=>simp only[qy]at e;cases e
  case call=>exact(q10 _ rfl).elim
  case makeMap t x=>
   cases x with
   |none=>exact(q7 _ rfl).elim
   |some y=>simp only[qy]at e;cases e
  all_goals exact quiet rfl e
end
section
variable {P:Program} {call:AC} {φ:Ph} {H H':AH} {n n':Nat} {h0 h:Hp} {σ:AE} {ρ:Env}
def jN (ops:Array Oper) (j:Nat):Option Nat:=(ops[j]?).bind (·.dst)
noncomputable def jF (ops:Array Oper) (val:Nat->AV) (σ:AE) (L:Nat->Bool):Nat->Nat->Option AV
 |0,t=>σ.get t
 |k+1,t=>if L k=true/\jN ops k=some t then some (val k)else jF ops val σ L k t
theorem iT {ops:Array Oper} {val:Nat->AV} {L L':Nat->Bool} {t:Nat}:∀k,(∀j,j<k->jN ops j=some t->L j=L' j)->jF ops val σ L k t=jF ops val σ L' k t
 |0,_=>rfl
 |k+1,h=>by
  (try simp only[jF])
  rw[iT k fun j hj=>h j (by omega)];by_cases hd:jN ops k=some t
  ·rw[h k (by omega) hd]
  ·rw[if_neg (fun q=>hd q.2),if_neg (fun q=>hd q.2)]
theorem uU {ops:Array Oper} {val:Nat->AV} {i t:Nat}:∀k,i<=k->jF ops val σ (fun j=>decide (j<i)) k t=jF ops val σ (fun _=>true) i t
 |0,h=>by
  have:i=0:=by omega
  subst this;rfl
 |k+1,h=>by
  by_cases hk:i=k+1
  ·subst hk;exact iT (k+1) fun j hj _=>by simp[hj]
  ·(try simp only[jF])
   rw[if_neg (by simp;omega)];exact uU k (by omega)
theorem AT {ops:Array Oper} {val:Nat->AV} {L L':Nat->Bool} {i t:Nat} (hne:∀j,j≠i->L' j=L j) (hi:L' i=true):∀k,i<k->(∀j,i<j->j<k->jN ops i=some t->jN ops j=some t->L j=false)->
 jF ops val σ L' k t=if jN ops i=some t then some (val i)else jF ops val σ L k t
 |0,h,_=>by omega
 |k+1,h,hc=>by
  (try simp only[jF])
  by_cases hk:k=i
  ·subst hk;by_cases hd:jN ops k=some t
   ·rw[if_pos ⟨hi,hd⟩,if_pos hd]
   ·rw[if_neg (fun q=>hd q.2),if_neg hd,if_neg (fun q=>hd q.2)];exact iT k fun j hj _=>hne j (by omega)
  ·have ih:jF ops val σ L' k t=if jN ops i=some t then some (val i)else jF ops val σ L k t:=AT hne hi k (by omega) fun j h1 h2=>hc j h1 (by omega)
   rw[hne k hk,ih];by_cases hd:jN ops i=some t
   ·by_cases hd2:jN ops k=some t
    ·have:=hc k (by omega) (by omega) hd hd2;rw[this];simp
    ·rw[if_neg (fun q=>hd2 q.2),if_pos hd];simp[hd]
   ·rw[if_neg hd,if_neg hd]
end
section
variable {P:Program} {call:AC} {φ:Ph} {H H':AH} {n n':Nat} {h0 h:Hp} {K:KH} {σ:AE} {ρ:Env} {r:AV}
theorem least {p:Nat->Prop}:∀n,p n->∃m,p m/\∀k,p k->m<=k:=by
 intro n
 induction n using Nat.strongRecOn with
 |_ n ih=>
  intro hn;by_cases h:∃k,k<n/\p k
  ·obtain⟨k,hk,hp⟩:=h;exact ih k hk hp
  ·exact⟨n,hn,fun k hk=>Nat.le_of_not_lt fun hlt=>h ⟨k,hlt,hk⟩⟩
theorem uV:∀(l:List AV) (k:Nat) (σ:AE) (t:Nat) (a:AV),(uL l k σ).get t=some a->(k<=t/\l[t-k]?=some a)∨σ.get t=some a
 | [],k,σ,t,a,e=> .inr e
 |v::l,k,σ,t,a,e=>by
  rcases uV l (k+1) _ t a e with⟨h1,h2⟩|h
  ·refine .inl ⟨by omega,?_⟩;obtain⟨d,rfl⟩:∃d,t=k+1+d:=⟨t-(k+1),by omega⟩;rw[show k+1+d-(k+1)=d from by omega]at h2;rw[show k+1+d-k=d+1 from by omega];simpa using h2
  ·rcases PM.aj eg σ k t a h with⟨rfl,h2⟩|⟨_,h2⟩
   ·exact .inl ⟨Nat.le_refl _,by simpa using h2⟩
   ·exact .inr h2
theorem AU {args:List AV} {vs:Array Value} (h:VRs φ args vs.toList):FR φ (uL args 0 .nil) (iA vs.toList 0):=fun t a e=>by
 rcases uV args 0 .nil t a e with⟨_,h2⟩|h2
 ·obtain⟨v,h3,h4⟩:=h.at h2;rw[nI,if_pos (Nat.zero_le _)];rw[Nat.sub_zero]at h3⊢;rw[h3];exact h4
 ·cases h2
theorem AW {vs:List AV} {us:List Value} (h:VRs φ vs us):VR φ (xg vs) (AD us):=by
 match vs,us,h with
 | [],us,h=>rw[h.aM];exact .tup (cs:= #[]) .nil
 | [a],us,h=>
  obtain⟨v,ws,rfl,h1,h2⟩:=h.cons_inv;rw[h2.aM];exact h1
 |a::b::l,us,h=>
  obtain⟨v,ws,h0,h1,h2⟩:=h.cons_inv;obtain⟨v2,ws2,h3,h4,h5⟩:=h2.cons_inv;subst h0 h3;exact .tup (cs:=(v::v2::ws2).toArray) (by simpa using h)
def Ht (P:Program) (f:FuncId):Bool:=bW P f&&(match P.funcs[f]? with
 |some fn=>(match fn.body with
  |some c=>(aF c).all fun t=>decide (t<fn.ntmps)
  |none=>false)
 |none=>false)
end
end Go.Proofs.YtflehenfikoniaaGreat
namespace Go.Proofs.YtflehenfikoniaaGreat
open Go Go.RowKit
def gH (w:World):Hp:=⟨fun b=>w.heap[b]?,w.heap.size⟩
theorem Du (w:World):Is w (gH w):=⟨rfl,fun _ _ h=>h⟩
open Go.ChangeShapes Go.WideShapes Go.ChangeAt
section
variable {H:Type} {enc:TypeId×Value->H} {P:Program} {W W':World}
theorem xn (hl:laidOutB P=true) (hb:Below W.heap.size W W'):∀(ts:List TypeId) (vs:List Value) (ds:List (DataW H)) (ps:List MemPlace),(ts.all fun t=>P.readableRec t&&decide (t<P.types.size))=true->
 DataW.TrodAll enc P W 0 (fun _=>true) true ts vs ds ps->(∀x∈ps,x.block<W.heap.size)->DataW.TrodAll enc P W' 0 (fun b=>decide (b<W.heap.size)) true ts vs ds ps
 | [],vs,ds,ps,_,h,_=>by
  obtain⟨rfl,rfl,rfl⟩:=trodAll_nil h;exact h
 |t::ts,vs,ds,ps,hr,h,hlt=>by
  obtain⟨v,vs',d,ds',p,q,rfl,rfl,rfl,h1,h2⟩:=trodAll_cons h;simp only[List.all_cons,Bool.and_eq_true,decide_eq_true_eq]at hr;exact trodAll_cons_mk (Below.trod hl hr.1.1 hr.1.2 h1 hb fun x hx=>hlt x (List.mem_append_left _ hx)) (xn hl hb ts vs' ds' q hr.2 h2 fun x hx=>hlt x (List.mem_append_right _ hx))
theorem JE {f:Func} {s:ChangeSpec} {apart fresh handsOn:Bool} {args:Array Value} {ds gs:List (DataW H)} {before:List MemPlace} {tb:TypeId} (hl:laidOutB P=true)
 (hr:(f.params.toList.all fun t=>P.readableRec t&&decide (t<P.types.size))=true) (hres:f.resultTypes= #[tb]) (hub:P.underlying tb=some .bool) (hv:s.vars=[])
 (hfn:s.fn H (ds++gs)={results:=[.lit (.bool true)],args:=ds}) (hW:DataW.Whole enc P f.params.toList s.vars apart W args.toList ds gs before) (hb:Below W.heap.size W W'):
 s.post enc P f apart fresh handsOn false W args (.bool true) W':=by
 have hlt:=hW.lt;have hW2:=hW;obtain⟨p,q,h1,h2,rfl,_,_⟩:=hW2;refine⟨ds,gs,p++q,[],p,[],hW,?_,?_,?_,hb.frame _,fun k=>by cases k⟩
 ·rw[hfn,hres];exact trodAll_mk1 (shut_bool hub true)
 ·rw[hfn];exact xn hl hb _ _ _ _ hr h1 fun x hx=>hlt x (List.mem_append_left _ hx)
 ·rw[hfn,hv];rfl
end
end Go.Proofs.YtflehenfikoniaaGreat
namespace Go.Proofs.YtflehenfikoniaaGreat
open Go Go.RowKit
noncomputable def JF (k j:IntKind):Bool:=IntKind.rec (IntKind.rec true false false false false false false false j) (IntKind.rec false true false false false false false false j) (IntKind.rec false false true false false false false false j) (IntKind.rec false false false true false false false false j)
 (IntKind.rec false false false false true false false false j) (IntKind.rec false false false false false true false false j) (IntKind.rec false false false false false false true false j) (IntKind.rec false false false false false false false true j) k
noncomputable def ltq (a b:Int):Bool:=Int.rec (fun m=>Int.rec (fun n=>Nat.blt m n) (fun _=>false) b) (fun m=>Int.rec (fun _=>true) (fun n=>Nat.blt n m) b) a
noncomputable def eqq (a b:Int):Bool:=Int.rec (fun m=>Int.rec (fun n=>Nat.beq m n) (fun _=>false) b) (fun m=>Int.rec (fun _=>false) (fun n=>Nat.beq m n) b) a
noncomputable def JG:AC:=fun _ _ _ _=>none
noncomputable def PX (f:FuncId):Bool:=bW Tryz.prog f&&(match Tryz.prog.funcs[f]? with
 |some fn=>(match fn.body with
  |some c=>(aF c).all fun t=>decide (t<fn.ntmps)
  |none=>false)
 |none=>false)
section
variable {r:AV×AH×Nat} {σ:AE} {H:AH} {n:Nat}
theorem JH (k j:IntKind):JF k j=decide (k=j):=by cases k<;>cases j<;>rfl
theorem JI (a b:Int):ltq a b=decide (a<b):=by
 cases a with
 |ofNat m=>
  cases b with
  |ofNat n=>
   show Nat.blt m n=_;rw[Bool.eq_iff_iff,Nat.blt_eq,decide_eq_true_eq];simp only[Int.ofNat_eq_natCast];omega
  |negSucc n=>
   show false=_;symm;rw[decide_eq_false_iff_not];simp only[Int.ofNat_eq_natCast,Int.negSucc_eq];omega
 |negSucc m=>
  cases b with
  |ofNat n=>
   show true=_;symm;rw[decide_eq_true_eq];simp only[Int.ofNat_eq_natCast,Int.negSucc_eq];omega
  |negSucc n=>
   show Nat.blt n m=_;rw[Bool.eq_iff_iff,Nat.blt_eq,decide_eq_true_eq];simp only[Int.negSucc_eq];omega
theorem JJ (a b:Int):eqq a b=decide (a=b):=by
 cases a with
 |ofNat m=>
  cases b with
  |ofNat n=>
   show Nat.beq m n=_;rw[Bool.eq_iff_iff,Nat.beq_eq,decide_eq_true_eq];simp only[Int.ofNat_eq_natCast];omega
  |negSucc n=>
   show false=_;symm;rw[decide_eq_false_iff_not];simp only[Int.ofNat_eq_natCast,Int.negSucc_eq];omega
 |negSucc m=>
  cases b with
  |ofNat n=>
   show false=_;symm;rw[decide_eq_false_iff_not];simp only[Int.ofNat_eq_natCast,Int.negSucc_eq];omega
  |negSucc n=>
   show Nat.beq m n=_;rw[Bool.eq_iff_iff,Nat.beq_eq,decide_eq_true_eq];simp only[Int.negSucc_eq];omega
end
theorem HR.grow {φ:Ph} {H:AH} {n:Nat} {h0 h g:Hp} (hr:HR φ H n h0 h) (hs:∀b o,h.f b=some o->g.f b=some o) (hn:h.n<=g.n):HR φ H n h0 g:=
 ⟨fun b p e=>⟨(hr.dom b p e).1,Nat.lt_of_lt_of_le (hr.dom b p e).2 hn⟩,fun b o e=>
  (hr.live b o e).imp id fun⟨p,ob,h1,h2,h3,h4⟩=>⟨p,ob,h1,h2,hs _ _ h3,h4⟩,hr.inj,fun b o e=>⟨Nat.lt_of_lt_of_le (hr.base b o e).1 hn,hs _ _ (hr.base b o e).2⟩,Nat.le_trans hr.size hn,fun q hq=>⟨⟨(hr.frz q hq).1.1.grow hn (by obtain⟨_,c,t,fz,h1,_⟩:=(hr.frz q hq).1.1;rw[h1,hs _ _ h1]),(hr.frz q hq).1.2⟩,(hr.frz q hq).2⟩,hr.b9 hn (fun _ _ h=>⟨h,rfl⟩) (fun _ h=>h) (fun _ h=> .inl h) (fun x Q B hx hB=>by obtain⟨o,ho⟩:=Q.ex _ _ _ B (hr.sep x Q hx).1 hB;rw[ho,hs _ _ ho]) fun b' o' p' e1 e2 e3=> .inl ⟨b',o',p',e1,e2,e3,rfl⟩⟩
theorem fB {h:Hp} (hw:Wf h):HR Ph.no .nil 0 h h:=
 ⟨fun _ _ k=>(by cases k),fun _ _ k=>(by cases k),fun _ _ _ _ _ _ k=>(by cases k),fun b o k=>⟨hw b o k,k⟩,Nat.le_refl _,fun _ k=>k.elim,fun _ _ k=>by cases k⟩
section
variable {P:Program} {ops:Array Oper}
theorem JK {m i:Nat} {o:Oper} (h:(ops.extract 0 m)[i]?=some o):i<m/\ops[i]?=some o:=by
 rw[Array.getElem?_extract]at h;split at h
 ·rename_i q;exact⟨by omega,by simpa using h⟩
 ·cases h
theorem QU {m i:Nat} {o:Oper} (hi:i<m) (h:ops[i]?=some o):(ops.extract 0 m)[i]?=some o:=by
 have:=(Array.getElem?_eq_some_iff.1 h).1;rw[Array.getElem?_extract,if_pos (by omega)];simpa using h
theorem Hu {m:Nat} {o:Oper} {ρ:Env} {h:Hp} {K:Env->Hp->Prop} (k:aX P (ops.extract 0 m) o ρ h K):aX P ops o ρ h K:=by
 unfold aX at k⊢;split
 ·rename_i e;rw[e]at k;exact k
 ·rename_i j want e;rw[e]at k;dsimp only at k⊢;cases hg:jq (ops.extract 0 m) j with
  |none=>rw[hg]at k;exact k.elim
  |some t=>
   have:jq ops j=some t:=by
    unfold jq at hg⊢;cases ho:(ops.extract 0 m)[j]? with
    |none=>rw[ho]at hg;cases hg
    |some o'=>rw[ho]at hg;rw[(JK ho).2];exact hg
   rw[hg]at k;rw[this];exact k
theorem AX {l:Array Bool} {i j:Nat} (hi:i<l.size):(l.setIfInBounds i true).getD j false=if j=i then true else l.getD j false:=by
 rw[Array.getD_eq_getD_getElem?,Array.getD_eq_getD_getElem?,Array.getElem?_setIfInBounds];by_cases e:j=i
 ·subst e;simp[hi]
 ·rw[if_neg e,if_neg (Ne.symm e)]
theorem JL {m:Nat} (hm:m<=ops.size) {ρ:Env} {h:Hp} {N N':Env->Hp->Prop} (hed:mD ops=true)
 (ht:∀i,m<=i->i<ops.size->∀listed:Array Bool,Down ops listed->(∀o,ops[i]?=some o->∀e∈o.after,Region.binds .any e=true->listed.getD e.on false=true)->∀j,j<i->listed.getD j false=true)
 (hp:De P (ops.extract 0 m) ρ h N') (hN:∀ρ h,N' ρ h->kp P ops (ops.toList.drop m) ρ h N):De P ops ρ h N:=by
 obtain⟨_,I,h0,hs,hf⟩:=hp;have hsz':(ops.extract 0 m).size=m:=by rw[Array.size_extract];omega
 rw[hsz']at h0 hs hf
 have tail:∀(k:Nat) (listed:Array Bool) (i:Nat) (o:Oper) (ρ:Env) (h:Hp),m<=k->ops[i]?=some o->listed.size=ops.size->(∀j,j<ops.size->(listed.getD j false=true<->j<k))->listed.getD i false=false->Down ops listed->
  (∀e∈o.after,Region.binds .any e=true->listed.getD e.on false=true)->kp P ops (ops.toList.drop k) ρ h N->
  i=k/\aX P ops o ρ h fun ρ' h'=>kp P ops (ops.toList.drop (k+1)) ρ' h' N:=fun k listed i o ρ h hk ho hsz hl hun hdn hedge ha=>by
  have hi:i<ops.size:=(Array.getElem?_eq_some_iff.1 ho).1
  have hik:k<=i:=by
   refine Nat.le_of_not_lt fun q=>?_
   rw[(hl i hi).2 q]at hun;cases hun
  have hall:=ht i (by omega) hi listed hdn (fun o' ho' e he hb=>by rw[ho]at ho';injection ho' with ho';subst ho';exact hedge e he hb)
  have hki:i=k:=by
   refine Nat.le_antisymm (Nat.le_of_not_lt fun q=>?_) hik;have:=(hl k (by omega)).1 (hall k q);omega
  subst hki;refine⟨rfl,?_⟩
  have e:ops.toList.drop i=o::ops.toList.drop (i+1):=by
   have h2:ops.toList[i]?=some o:=by simpa using ho
   obtain⟨h3,h4⟩:=List.getElem?_eq_some_iff.1 h2;rw[List.drop_eq_getElem_cons h3,h4]
  rw[e]at ha;exact mC ha
 refine⟨hed,fun listed ρ h=>(∃L':Array Bool,L'.size=m/\(∀j,j<m->L'.getD j false=listed.getD j false)/\(∀j,m<=j->listed.getD j false=false)/\I L' ρ h)∨
  ∃k,m<=k/\k<=ops.size/\(∀j,j<ops.size->(listed.getD j false=true<->j<k))/\kp P ops (ops.toList.drop k) ρ h N,?_,?_,?_⟩
 ·refine .inl ⟨Array.replicate m false,by simp,fun j _=>?_,fun j _=>?_,h0⟩
  ·simp[Array.getD]
  ·simp[Array.getD]
 ·intro listed i o ρ h hsz hdn ho hun hedge hJ hw;have hi:i<ops.size:=(Array.getElem?_eq_some_iff.1 ho).1;have wW:∀j,(listed.setIfInBounds i true).getD j false=if j=i then true else listed.getD j false:=fun j=>AX (by omega)
  rcases hJ with⟨L',hL,hl,hno,hI⟩|⟨k,hk,hks,hl,ha⟩
  ·by_cases him:i<m
   ·have hds:Down (ops.extract 0 m) L':=fun j o' ho' hj e he hb=>by
     obtain⟨hjm,ho2⟩:=JK ho';rw[hl j hjm]at hj;have h1:=hdn j o' ho2 hj e he hb
     have hem:e.on<m:=by
      refine Nat.lt_of_not_le fun q=>?_
      rw[hno e.on q]at h1;cases h1
     rw[hl e.on hem];exact h1
    have hg:=hs L' i o ρ h hL hds (QU him ho) (by rw[hl i him];exact hun) (fun e he hb=>by
     have h1:=hedge e he hb
     have hem:e.on<m:=by
      refine Nat.lt_of_not_le fun q=>?_
      rw[hno e.on q]at h1;cases h1
     rw[hl e.on hem];exact h1) hI hw
    refine eO (fun v h' hk=> .inl ⟨L'.setIfInBounds i true,by simpa using hL,fun j hj=>?_,fun j hj=>?_,hk⟩) (Hu hg)
    ·rw[wW,AX (by omega),hl j hj]
    ·rw[wW,if_neg (by omega)];exact hno j hj
   ·have hall:=ht i (by omega) hi listed hdn (fun o' ho' e he hb=>by rw[ho]at ho';injection ho' with ho';subst ho';exact hedge e he hb);have hend:kp P ops (ops.toList.drop m) ρ h N:=hN ρ h (hf L' ρ h hL (fun j hj=>by rw[hl j hj];exact hall j (by omega)) hI);obtain⟨e,hg⟩:=tail m listed i o ρ h (Nat.le_refl _) ho hsz (fun j hj=>⟨fun q=>Nat.lt_of_not_le fun q2=>(by rw[hno j q2]at q;cases q),fun q=>hall j (by omega)⟩) hun hdn hedge hend;refine eO (fun v h' hk=> .inr ⟨m+1,by omega,by omega,fun j hj=>?_,hk⟩) hg;rw[wW];by_cases e2:j=i
    ·rw[if_pos e2];simp;omega
    ·rw[if_neg e2];refine⟨fun q=>?_,fun q=>hall j (by omega)⟩;refine Nat.lt_of_not_le fun q2=>?_
     rw[hno j (by omega)]at q;cases q
  ·obtain⟨e,hg⟩:=tail k listed i o ρ h hk ho hsz hl hun hdn hedge ha;refine eO (fun v h' hk'=> .inr ⟨k+1,by omega,by omega,fun j hj=>?_,hk'⟩) hg;rw[wW];by_cases e2:j=i
   ·rw[if_pos e2];simp;omega
   ·rw[if_neg e2,hl j hj];omega
 ·intro listed ρ h hsz hall hJ;rcases hJ with⟨L',hL,hl,hno,hI⟩|⟨k,hk,hks,hl,ha⟩
  ·have hms:m=ops.size:=by
    refine Nat.le_antisymm hm (Nat.le_of_not_lt fun q=>?_);have:=hno m (Nat.le_refl _);rw[hall m q]at this;cases this
   have:=hN ρ h (hf L' ρ h hL (fun j hj=>by rw[hl j hj];exact hall j (by omega)) hI);rw[List.drop_eq_nil_of_le (by simp;omega)]at this;exact this
  ·have hks2:k=ops.size:=by
    refine Nat.le_antisymm hks (Nat.le_of_not_lt fun q=>?_);have:=(hl k q).1 (hall k q);omega
   rw[List.drop_eq_nil_of_le (by simp;omega)]at ha;exact ha
def Hv (ops:Array Oper) (m:Nat):Array Oper:=⟨ops.toList.take m⟩
theorem Nj (ops:Array Oper) (m:Nat):Hv ops m=ops.extract 0 m:=by
 apply Array.ext';simp[Hv]
end
abbrev PK:=AV->AH->Nat->Prop
abbrev CP:=FuncId->List AV->AH->Nat->PK->Prop
abbrev KP:=AE->AH->Nat->Prop
def cj {α:Type} (o:Option α) (k:α->Prop):Prop:=match o with
 |some a=>k a
 |none=>False
def eE (b:Bool) (t e:Prop):Prop:=match b with
 |true=>t
 |false=>e
def ck (φ:Ph) (h0:Hp) (κ:PK) (K:KH):Prop:=∀(ψ:Ph) (v:AV) (H:AH) (n:Nat) (u:Value) (g:Hp),PLe φ ψ->HR ψ H n h0 g->VR ψ v u->κ v H n->K u g
def Nk (y:Nat) (run:List AV->AH->Nat->PK->Prop):Prop:=∀(args:List AV) (H:AH) (n:Nat) (κ:PK),run args H n κ->∀(φ:Ph) (h0 h:Hp) (vs:Array Value) (K:KH),HR φ H n h0 h->VRs φ args vs.toList->ck φ h0 κ K->rH Tryz.prog y vs h K
inductive Yld (y:Nat) (args:List AV) (H:AH) (n:Nat) (κ:PK):Prop where
 |mk (run:List AV->AH->Nat->PK->Prop) (ok:Nk y run) (h:run args H n κ)
def JM (v:AV):Option Nat:=match v with
 | .any (.func (.yield y) ⟨[]⟩ ⟨[]⟩)=>some y
 |_=>none
def yOr (o:Option (Nat×List AV)) (A:Nat->List AV->Prop) (B:Prop):Prop:=match o with
 |some (y,xs)=>A y xs
 |none=>B
structure ag (b:Bool) (A B:Prop):Prop where
 t:b=true->A
 f:b=false->B
theorem ag.dec {p:Prop} [Decidable p] {A B:Prop} (t:p->A) (f:¬p->B):ag (decide p) A B:=⟨fun h=>t (of_decide_eq_true h),fun h=>f (of_decide_eq_false h)⟩
theorem ag.dh {p:Prop} [Decidable p] {A B:Prop} (t:¬p->A) (f:p->B):ag (!decide p) A B:=⟨fun h=>t (by simpa using h),fun h=>f (by simpa using h)⟩
inductive Ask {α:Type} (o:Option α) (κ:α->Prop):Prop where
 |mk (a:α) (h:o=some a) (k:κ a)
inductive Idx (i:Int) (len:Nat) (κ:Nat->Prop):Prop where
 |mk (j:Nat) (h:i=(j:Int)) (lt:j<len) (k:κ j)
def hd:AV->AV
 | .si k n=> .int k n
 | .sb b=> .bool b
 | .ss s=> .str s
 | .sy b o n c k=> .sl b o n c k
 |v=>v
def mk:AV->AV
 | .int k n=> .si k n
 | .bool b=> .sb b
 | .str s=> .ss s
 | .sl b o n c k=> .sy b o n c k
 |v=>v
def isS:AV->Bool
 | .si _ _=>true
 | .sb _=>true
 | .ss _=>true
 | .sy _ _ _ _ _=>true
 |_=>false
def hdK:AV->AV
 | .agg l=> .agg (l.map hd)
 |v=>hd v
def Hw:AV->Bool
 | .agg l=>l.any isS
 |v=>isS v
theorem ag.sb {A B:Prop} {b:Bool} (t:b=true->A) (f:b=false->B):ag b A B:=⟨t,f⟩
theorem ag.nsb {A B:Prop} {b:Bool} (t:b=false->A) (f:b=true->B):ag (!b) A B:=⟨fun h=>t (by simpa using h),fun h=>f (by simpa using h)⟩
def Hy (op:BinOp) (k j:IntKind) (a b:Int) (c:Bool) (κ:AV->Prop):Prop:=match op with
 | .shl=>(match c with
  |true=>eE (ltq b 0) False (κ (.si k (k.wrap (a*2^min b.toNat k.bits))))
  |false=>0<=b/\κ (.si k (k.wrap (a*2^min b.toNat k.bits))))
 | .shr=>(match c with
  |true=>eE (ltq b 0) False (κ (.si k (a.fdiv (2^min b.toNat k.bits))))
  |false=>0<=b/\κ (.si k (a.fdiv (2^min b.toNat k.bits))))
 |op=>eE (JF k j) (match op with
  | .add=>κ (.si k (k.wrap (a+b)))
  | .sub=>κ (.si k (k.wrap (a-b)))
  | .mul=>κ (.si k (k.wrap (a*b)))
  | .quo=>(match c with
   |true=>eE (eqq b 0) False (κ (.si k (k.wrap (a.tdiv b))))
   |false=>b≠0/\κ (.si k (k.wrap (a.tdiv b))))
  | .rem=>(match c with
   |true=>eE (eqq b 0) False (κ (.si k (a.tmod b)))
   |false=>b≠0/\κ (.si k (a.tmod b)))
  | .and=>κ (.si k (bY .and k a b))
  | .or=>κ (.si k (bY .or k a b))
  | .xor=>κ (.si k (bY .xor k a b))
  | .andNot=>κ (.si k (bY .andNot k a b))
  | .eql=>κ (.sb (decide (a=b)))
  | .neq=>κ (.sb (!decide (a=b)))
  | .lss=>κ (.sb (decide (a<b)))
  | .leq=>κ (.sb (decide (a<=b)))
  | .gtr=>κ (.sb (decide (b<a)))
  | .geq=>κ (.sb (decide (b<=a)))
  |_=>False) False
def Hz (op:BinOp) (a b:List Nat) (κ:AV->Prop):Prop:=match op with
 | .add=>a.length+b.length<=9223372036854775807/\κ (.ss (a++b))
 | .eql=>κ (.sb (dp a b))
 | .neq=>κ (.sb (!dp a b))
 | .lss=>κ (.sb (ltL a b))
 | .leq=>κ (.sb (ltL a b||dp a b))
 | .gtr=>κ (.sb (!(ltL a b||dp a b)))
 | .geq=>κ (.sb (!ltL a b))
 |_=>False
noncomputable def JN (op:BinOp) (t:TypeId) (a b:Bool) (κ:AV->Prop):Prop:=eE (tM Tryz.prog t) (match op with
 | .eql=>κ (.sb (a==b))
 | .neq=>κ (.sb (!(a==b)))
 |_=>False) False
noncomputable def HA (op:BinOp) (t:TypeId) (x y:AV) (H:AH) (κ:AV->Prop):Prop:=match x,y with
 | .int k a,.int j b=>cj (Ng op k j a b) κ
 | .int k a,.si j b=>Hy op k j a b false κ
 | .si k a,.int j b=>Hy op k j a b true κ
 | .si k a,.si j b=>Hy op k j a b false κ
 | .ss a,.ss b=>Hz op a b κ
 | .ss a,.str b=>Hz op a b κ
 | .str a,.ss b=>Hz op a b κ
 | .sb a,.sb b=>JN op t a b κ
 | .sb a,.bool b=>JN op t a b κ
 | .bool a,.sb b=>JN op t a b κ
 | .agg xs,.agg ys=>eE (xs.any isS||ys.any isS) (cj (wQ Tryz.prog op t (.agg (xs.map hd)) (.agg (ys.map hd)) H) fun v=>κ (mk v)) (cj (wQ Tryz.prog op t (.agg xs) (.agg ys) H) κ)
 |x,y=>cj (wQ Tryz.prog op t x y H) κ
noncomputable def unP (op:UnOp) (x:AV) (κ:AV->Prop):Prop:=match op,x with
 | .not,.sb b=>κ (.sb (!b))
 | .neg,.si k n=>κ (.si k (k.wrap (0-n)))
 | .xor,.si k n=>κ (.si k (bY .xor k (if k.signed then-1 else k.max) n))
 |op,x=>cj (eun op x) κ
def AY (c:AV) (A B:Prop):Prop:=match c with
 | .bool true=>A
 | .bool false=>B
 | .sb q=>ag q A B
 |_=>False
def oG (P:Program) (t:TypeId):Option IntKind:=match P.underlying t with
 |some (.int k)=>some k
 |_=>none
noncomputable def un3 (κ:PK) (r:AV×AH×Nat):Prop:=Prod.rec (fun v q=>Prod.rec (fun H n=>κ v H n) q) r
noncomputable def AZ (o:Op) (σ:AE) (H:AH) (n:Nat) (κ:PK):Prop:=cj (EW Tryz.prog JG o σ H n) (un3 κ)
noncomputable def mmP (mx:Bool) (x y:AV) (κ:AV->Prop):Prop:=match x,y with
 | .si k a,.si _ b=>κ (.si k (if mx then max a b else min a b))
 | .si k a,.int _ b=>κ (.si k (if mx then max a b else min a b))
 | .int k a,.si _ b=>κ (.si k (if mx then max a b else min a b))
 |x,y=>cj (emm mx x y) κ
noncomputable def HB (t:TypeId) (x:AV) (H:AH) (κ:AV->Prop):Prop:=match x with
 | .ss _=>cj (Hn Tryz.prog t (hd x) H) fun v=>κ (mk v)
 | .sy _ _ _ _ _=>cj (Hn Tryz.prog t (hd x) H) fun v=>κ (mk v)
 | .rw _ _ n _ _=>eE (uH Tryz.prog t) (κ (.si .i64 n)) False
 | .fr n _ _=>eE (uH Tryz.prog t) (κ (.si .i64 n)) False
 |_=>cj (Hn Tryz.prog t x H) κ
noncomputable def ixP (ix:AV) (len:Nat) (s:Bool) (κ:Nat->Prop):Prop:=match ix,s with
 | .si _ i,_=>Idx i len κ
 | .int _ i,true=>Idx i len κ
 |_,_=>cj (eix ix len) κ
noncomputable def iU (t:TypeId) (x ix:AV) (κ:AV->Prop):Prop:=match Tryz.prog.underlying t,x with
 |some (.slice e),.sl b o n _ _=>cj (aB Tryz.prog e) fun k=>ixP ix n false fun i=>κ (.ptr b (o+i*k))
 |some (.slice e),.sy b o n _ _=>cj (aB Tryz.prog e) fun k=>ixP ix n true fun i=>κ (.ptr b (o+i*k))
 |some (.slice e),.rw b o n _ _=>cj (aB Tryz.prog e) fun k=>ixP ix n true fun i=>κ (.ptr b (o+i*k))
 |some (.slice e),.fr n k' l=>cj (aB Tryz.prog e) fun k=>eE (Nat.beq k k') (ixP ix n true fun i=>κ (.fa l (i*k))) False
 |some (.array len e),.ptr b o=>cj (aB Tryz.prog e) fun k=>ixP ix len false fun i=>κ (.ptr b (o+i*k))
 |_,_=>False
noncomputable def rU (t:TypeId) (x ix:AV) (κ:AV->Prop):Prop:=match Tryz.prog.underlying t,x with
 |some (.array len e),.agg l=>cj (aB Tryz.prog e) fun k=>ixP ix len false fun i=>cj (xe Tryz.prog e l (i*k)) κ
 |some .string,.str s=>ixP ix s.length false fun i=>cj (nth s i) fun c=>(match ix with
  | .int _ _=>κ (.int .u8 (Int.ofNat c))
  |_=>κ (.si .u8 (Int.ofNat c)))
 |some .string,.ss s=>ixP ix s.length true fun i=>Ask (nth s i) fun c=>κ (.si .u8 (Int.ofNat c))
 |_,_=>False
noncomputable def uW (l:List AV) (t:TypeId) (o:Nat) (κ:AV->Prop):Prop:=match m8 Tryz.prog t with
 |some false=>cj (nth l o) κ
 |some true=>cj (aB Tryz.prog t) fun m=>cj (bp l o m) fun r=>κ (.agg r)
 |none=>False
noncomputable def s8 (t:TypeId) (a:AV) (H:AH) (κ:AV->Prop):Prop:=match a with
 | .ptr b o=>(match H.get b with
  |some (.cells l _)=>uW l t o κ
  |some (.ro l)=>uW l t o κ
  |_=>False)
 | .fa l o=>uW l t o κ
 |_=>False
noncomputable def mL (t:TypeId) (a v:AV) (H:AH) (n:Nat) (κ:PK):Prop:=match a with
 | .ptr b o=>(match H.get b with
  |some (.cells l z)=>cj (aB Tryz.prog t) fun s=>eE (Nat.beq v.cells.length s&&(okC v&&v.cells.all nJ)) (cj (eY l o v.cells) fun l'=>κ cM (H.set (some (.cells l' z)) aa b) n) False
  |_=>False)
 |_=>False
noncomputable def mk3 (κ:PK) (r:AV×AH×Nat):Prop:=un3 (fun v H n=>κ (mk v) H n) r
def isR:AV->Bool
 | .rw _ _ _ _ _=>true
 | .fr _ _ _=>true
 |_=>false
inductive RSl (lo hi mx:Option AV) (n:Nat) (κ:Nat->Nat->Prop):Prop where
 |mk (l h:Nat) (hl:lG (lo.map hd) 0=some l) (hh:lG (hi.map hd) n=some h) (hm:mx=none∨(hi.isSome=true/\lG (mx.map hd) 0=some h)) (h1:l<=h) (h2:h<=n) (k:κ l h)
def rwO (o k l:Nat):Option AV->Nat
 |none=>o
 |some _=>o+l*k
def rwN (n l h:Nat):Option AV->Option AV->Nat
 |none,none=>n
 |some _,none=>n-l
 |none,some _=>h
 |some _,some _=>h-l
def rwX (x:Nat):Option AV->Option AV->Nat
 |none,_=>x
 |some _,none=>(match x with
  |0=>0
  |1=>0
  |x+2=>x+2)
 |some _,some _=>(match x with
  |4=>4
  |_=>1)
def EY (b o n k x:Nat) (lo hi mx:Option AV) (l h:Nat):AV:= .rw b (rwO o k l lo) (rwN n l h lo hi) k (rwX x hi mx)
noncomputable def JO (t:TypeId) (b o n k x:Nat) (lo hi mx:Option AV) (κ:AV->Prop):Prop:=match Tryz.prog.underlying t with
 |some (.slice e)=>cj (aB Tryz.prog e) fun es=>eE (Nat.beq es k) (RSl lo hi mx n fun l h=>κ (EY b o n k x lo hi mx l h)) False
 |_=>False
def frL (k:Nat) (L:List AV) (l h:Nat):Option AV->Option AV->List AV
 |none,none=>L
 |some _,none=>L.drop (l*k)
 |none,some _=>L.take (h*k)
 |some _,some _=>(L.drop (l*k)).take ((h-l)*k)
noncomputable def JP (t:TypeId) (n k:Nat) (L:List AV) (lo hi:Option AV) (κ:AV->Prop):Prop:=match Tryz.prog.underlying t with
 |some (.slice e)=>cj (aB Tryz.prog e) fun es=>eE (Nat.beq es k) (RSl lo hi none n fun l h=>κ (.fr (rwN n l h lo hi) k (frL k L l h lo hi))) False
 |_=>False
inductive Nxt (H:AH) (a:AV) (s:Bool) (κ:AV->AH->Prop):Prop where
 |mk (it b m:Nat) (seen:List Nat) (es:List (AV×AV)) (hs:s=false) (ha:a= .ptr it 0) (hi:H.get it=some (.iter b m seen)) (hb:H.get b=some (.map es)) (hm:es.length=m)
  (tH:(∀i,i<m->i∈seen)->κ (.tup [.bool false]) H)
  (step:∀i e,es[i]?=some e->i∉seen->κ (.tup [.bool true,Go.Proofs.YtflehenfikoniaaGreat.mk e.1,e.2]) (H.set (some (.iter b m (seen++ [i]))) aa it))
 |mp (it b m:Nat) (seen:List Nat) (es:List (AV×AV)) (bs:List Nat) (hs:s=false) (ha:a= .ptr it 0) (hi:H.get it=some (.iter b m seen)) (hb:H.get b=some (.mp es bs m)) (hm:∀x∈bs,x<m)
  (tH:(∀x∈bs,x∈seen)->κ (.tup [.bool false]) H)
  (step:∀(i:Nat) e x,es[i]?=some e->bs[i]?=some x->x∉seen->κ (.tup [.bool true,Go.Proofs.YtflehenfikoniaaGreat.mk e.1,e.2]) (H.set (some (.iter b m (seen++ [x]))) aa it))
inductive Ent (H:AH) (a:AV) (κ:AV->Prop):Prop where
 |mk (it b m i:Nat) (seen:List Nat) (es:List (AV×AV)) (e:AV×AV) (ha:a= .ptr it 0) (hi:H.get it=some (.iter b m (seen++ [i]))) (hb:H.get b=some (.map es)) (hm:es.length=m) (he:es[i]?=some e)
  (k:κ (.tup [Go.Proofs.YtflehenfikoniaaGreat.mk e.1,e.2]))
 |mp (it b m i x:Nat) (seen:List Nat) (es:List (AV×AV)) (bs:List Nat) (e:AV×AV) (ha:a= .ptr it 0) (hi:H.get it=some (.iter b m (seen++ [x]))) (hb:H.get b=some (.mp es bs m)) (hnd:bs.Nodup) (hx:bs[i]?=some x) (he:es[i]?=some e)
  (k:κ (.tup [Go.Proofs.YtflehenfikoniaaGreat.mk e.1,e.2]))
inductive yN (H:AH) (k:Nat):AV->Nat->List AV->Prop where
 |rw {b o n k' x:Nat} {l new:List AV} (hb:H.get b=some (.ro l)∨∃z,H.get b=some (.cells l z)) (hs:bp l o (n*k)=some new):yN H k (.rw b o n k' x) n new
 |old {x:AV} {m:Nat} {new:List AV} (e:Ni H k (hd x)=some (m,new)):yN H k x m new
 |fr {n:Nat} {l:List AV}:yN H k (.fr n k l) n l
inductive Nl (H:AH) (k:Nat):AV->Nat->List AV->AH->Bool->Prop where
 |nsl:Nl H k .nsl 0 [] H true
 |rw {b o n:Nat} {l old:List AV} {z:Bool} (hb:H.get b=some (.cells l z)) (hs:bp l o (n*k)=some old):Nl H k (.rw b o n k 0) n old (H.set none aa b) z
 |sl {b o n c:Nat} {l old:List AV} {z:Bool} (hb:H.get b=some (.cells l z)) (hs:bp l o (n*k)=some old) (hn:n<=c) (hc:o+c*k<=l.length):Nl H k (.sl b o n c 0) n old (H.set none aa b) z
structure RTy (t u:TypeId) (k by':Nat):Prop where
 h:∃e ud z,Tryz.prog.underlying t=some (.slice e)/\Tryz.prog.underlying u=some ud/\(∀q,ud≠ .int q)/\aB Tryz.prog e=some k/\jS Tryz.prog e=some by'/\cL Tryz.prog e=some z/\z.cells.size=k/\0<by'/\0<k
inductive bC (t u:TypeId) (s x:AV) (H:AH) (n:Nat) (κ:PK):Prop where
 |grow (k by' m sn:Nat) (new old:List AV) (G:AH) (z:Bool) (ty:RTy t u k by') (src:yN H k x m new) (hnew:new.length=m*k) (hone:new.all nJ=true) (row:Nl H k s sn old G z) (big:(sn+m)*by'<=140737488355328)
  (k':κ (.rw n 0 (sn+m) k 0) (G.set (some (.cells (old++new) z)) aa n) (n+1))
 |exact(k by' m b o sn:Nat) (new old:List AV) (hs:s= .rw b o sn k 1) (ty:RTy t u k by') (src:yN H k x m new) (hnew:new.length=m*k) (hone:new.all nJ=true) (hm:m≠0) (row:yN H k s sn old) (big:(sn+m)*by'<=140737488355328)
  (k':κ (.rw n 0 (sn+m) k 0) (H.set (some (.cells (old++new) true)) aa n) (n+1))
 |b9 (k by' b o sn q:Nat) (l:List AV) (z:Bool) (hs:s= .rw b o sn k q) (hq:q≠4) (ty:RTy t u k by') (src:yN H k x 0 []) (hb:H.get b=some (.cells l z)) (k':κ (.rw b o sn k q) H n)
noncomputable def EZ (t u:TypeId) (s x:AV) (H:AH) (n:Nat) (κ:PK):Prop:=eE (isR s||isR x) (bC t u s x H n κ) (eE (isS s||isS x) (Ask (qz Tryz.prog t u (hd s) (hd x) H n) (mk3 κ)) (cj (qz Tryz.prog t u s x H n) (un3 κ)))
inductive E0 (t:TypeId) (s x:AV) (H:AH) (n:Nat) (κ:PK):Prop where
 |mk (k m dn b o c kk bx ox kx qx:Nat) (l lx new l':List AV) (z:Bool) (hs:hd s= .sl b o dn c kk) (hx:x= .rw bx ox m kx qx) (hq:qx≠4) (ty:∃e,Tryz.prog.underlying t=some (.slice e)/\aB Tryz.prog e=some k)
  (hbx:H.get bx=some (.ro lx)∨∃z,H.get bx=some (.cells lx z)) (hsx:bp lx ox (m*k)=some new) (hb:H.get b=some (.cells l z)) (hone:(new.take (min m dn*k)).all nJ=true) (hset:eY l o (new.take (min m dn*k))=some l')
  (k':κ (.si .i64 ((min m dn:Nat):Int)) (H.set (some (.cells l' z)) aa b) n)
noncomputable def PY (t:TypeId) (s x:AV) (H:AH) (n:Nat) (κ:PK):Prop:=eE (isR x) (E0 t s x H n κ) (eE (isS s||isS x) (Ask (AJ Tryz.prog t (hd s) (hd x) H n) (mk3 κ)) (cj (AJ Tryz.prog t s x H n) (un3 κ)))
noncomputable def Tz (t:TypeId) (l c:AV) (H:AH) (n:Nat) (κ:PK):Prop:=eE (isS l||isS c) (Ask (uK Tryz.prog t (hd l) (hd c) H n) (mk3 κ)) (cj (uK Tryz.prog t l c H n) (un3 κ))
noncomputable def gK (t:TypeId) (x:AV) (lo hi mx:Option AV) (κ:AV->Prop):Prop:=match x with
 | .rw b o n k q=>JO t b o n k q lo hi mx κ
 | .fr n k q=>(match mx with
  |none=>JP t n k q lo hi κ
  |some _=>False)
 |x=>eE (isS x||(rM lo||(rM hi||rM mx))) (Ask (iR Tryz.prog t (hd x) (lo.map hd) (hi.map hd) (mx.map hd)) fun v=>κ (mk v)) (cj (iR Tryz.prog t x lo hi mx) κ)
where rM:Option AV->Bool
 |some v=>isS v
 |none=>false
noncomputable def s9 (c:Call) (call:CP) (σ:AE) (H:AH) (n:Nat) (κ:PK):Prop:=match c.callee with
 | .value f=>(match eev σ f with
  | .fn g a cs=>call g (a++c.args.toList.map (eev σ)++cs) H n κ
  |_=>False)
 | .builtin .len=>(match c.argTypes.toList,c.args.toList.map (eev σ)with
  | [t],[x]=>HB t x H fun v=>κ v H n
  |_,_=>False)
 | .builtin .min=>(match c.args.toList.map (eev σ)with
  | [x,y]=>mmP false x y fun v=>κ v H n
  | [x,y,z]=>mmP false x y fun u=>mmP false u z fun v=>κ v H n
  |_=>False)
 | .builtin .max=>(match c.args.toList.map (eev σ)with
  | [x,y]=>mmP true x y fun v=>κ v H n
  | [x,y,z]=>mmP true x y fun u=>mmP true u z fun v=>κ v H n
  |_=>False)
 | .builtin .append=>(match c.argTypes.toList,c.args.toList.map (eev σ)with
  | [t,u],[s,x]=>EZ t u s x H n κ
  |_,_=>False)
 | .builtin .copy=>(match c.argTypes.toList,c.args.toList.map (eev σ)with
  | [t,_],[s,x]=>PY t s x H n κ
  |_,_=>False)
 | .builtin .delete=>(match c.argTypes.toList,c.args.toList.map (eev σ)with
  | [t,_],[s,x]=>eE (Hw x) (Ask (Dl Tryz.prog t s (hdK x) H n) (mk3 κ)) (cj (Dl Tryz.prog t s x H n) (un3 κ))
  |_,_=>False)
 |_=>False
inductive TA (src dst:TypeId) (x:AV) (H:AH) (κ:AV->Prop):Prop where
 |mk (b o n k q:Nat) (l new:List AV) (s:List Nat) (hx:x= .rw b o n k q) (hq:q≠4) (ty:∃e,Tryz.prog.underlying src=some (.slice e)/\Tryz.prog.underlying e=some (.int .u8)/\Tryz.prog.underlying dst=some .string) (hb:H.get b=some (.ro l)∨∃z,H.get b=some (.cells l z)) (hl:bp l o n=some new) (hs:kq new=some s) (k':κ (.ss s))
noncomputable def PZ (src dst:TypeId) (x:AV) (H:AH) (n:Nat) (κ:PK):Prop:=match x with
 | .si _ a=>(match oG Tryz.prog src,oG Tryz.prog dst with
  |some _,some k=>κ (.si k (k.wrap a)) H n
  |_,_=>False)
 | .rw _ _ _ _ _=>TA src dst x H fun v=>κ v H n
 |_=>eE (isS x) (Ask (AI Tryz.prog src dst (hd x) H n) (mk3 κ)) (cj (AI Tryz.prog src dst x H n) (un3 κ))
noncomputable def uX (o:Op) (call:CP) (σ:AE) (H:AH) (n:Nat) (κ:PK):Prop:=match o with
 | .move x=>κ (eev σ x) H n
 | .assign x=>κ (eev σ x) H n
 | .pick c a b=>AY (eev σ c) (κ (eev σ a) H n) (κ (eev σ b) H n)
 | .load t a=>s8 t (eev σ a) H fun v=>κ v H n
 | .store t a x=>mL t (eev σ a) (eev σ x) H n κ
 | .binOp op t x y _=>HA op t (eev σ x) (eev σ y) H fun v=>κ v H n
 | .unOp op _ x=>unP op (eev σ x) fun v=>κ v H n
 | .indexAddr t x ix=>iU t (eev σ x) (eev σ ix) fun v=>κ v H n
 | .index t x ix=>rU t (eev σ x) (eev σ ix) fun v=>κ v H n
 | .slice t x lo hi mx=>gK t (eev σ x) (lo.map (eev σ)) (hi.map (eev σ)) (mx.map (eev σ)) fun v=>κ v H n
 | .makeSlice t l c=>Tz t (eev σ l) (eev σ c) H n κ
 | .convert s d x=>PZ s d (eev σ x) H n κ
 | .call c=>s9 c call σ H n κ
 | .lookup t m k ok=>eE (Hw (eev σ k)) (Ask (jj Tryz.prog t (eev σ m) (hdK (eev σ k)) ok H) fun v=>κ v H n) (cj (jj Tryz.prog t (eev σ m) (eev σ k) ok H) fun v=>κ v H n)
 | .next it s=>Nxt H (eev σ it) s fun v H=>κ v H n
 | .entry it=>Ent H (eev σ it) fun v=>κ v H n
 | .mapUpdate t m k x=>eE (Hw (eev σ k)) (Ask (kY Tryz.prog t (eev σ m) (hdK (eev σ k)) (eev σ x) H n) (mk3 κ)) (cj (kY Tryz.prog t (eev σ m) (eev σ k) (eev σ x) H n) (un3 κ))
 |o=>AZ o σ H n κ
noncomputable def opP (ops:Array Oper) (o:Oper) (call:CP) (σ:AE) (H:AH) (n:Nat) (k:KP):Prop:=match o.guard with
 |none=>uX o.op call σ H n fun v H n=>k (cN σ o.dst v) H n
 |some (j,want)=>(match jq ops j with
  |none=>False
  |some t=>(match ak (pa t) σ with
   | .bool q=>(match q==want with
    |true=>uX o.op call σ H n fun v H n=>k (cN σ o.dst v) H n
    |false=>k (cN σ o.dst cM) H n)
   | .sb q=>(match want with
    |true=>ag q (uX o.op call (cN σ (some t) (.bool true)) H n fun v H n=>k (cN (cN σ (some t) (.bool true)) o.dst v) H n) (k (cN (cN σ (some t) (.bool false)) o.dst cM) H n)
    |false=>ag q (k (cN (cN σ (some t) (.bool true)) o.dst cM) H n) (uX o.op call (cN σ (some t) (.bool false)) H n fun v H n=>k (cN (cN σ (some t) (.bool false)) o.dst v) H n))
   | .tup _=>k (cN σ o.dst cM) H n
   |_=>False))
noncomputable def tE (ops:Array Oper) (l:List Oper):CP->AE->AH->Nat->KP->Prop:=
 List.rec (fun _ σ H n k=>k σ H n) (fun o _ ih call σ H n k=>opP ops o call σ H n fun σ H n=>ih call σ H n k) l
noncomputable def Nm (o:Oper) (σ:AE):Option (Nat×List AV):=match valOf o with
 |some (f,xs)=>(match JM (eev σ f)with
  |some y=>some (y,xs.toList.map (eev σ))
  |none=>none)
 |none=>none
noncomputable def HC (ops:Array Oper) (l:List Oper):CP->AE->AH->Nat->KP->Prop:=
 List.rec (fun _ σ H n k=>k σ H n) (fun o _ ih call σ H n k=>yOr (Nm o σ) (fun y xs=>Yld y xs H n fun v H n=>ih call (cN σ o.dst v) H n k) (opP ops o call σ H n fun σ H n=>ih call σ H n k)) l
abbrev XP:=CP->AE->AH->Nat->KP->(Nat->KP)->KP->Prop
noncomputable def QV (c:Operand) (q:Bool) (σ:AE):AE:=match c with
 | .tmp t=>cN σ (some t) (.bool q)
 |_=>σ
noncomputable def JQ (c:Operand) (σ:AE) (A B:AE->Prop):Prop:=match eev σ c with
 | .bool true=>A σ
 | .bool false=>B σ
 | .sb q=>ag q (A (QV c true σ)) (B (QV c false σ))
 |_=>False
def Cov (p:Nat) (σ:AE) (H:AH) (n:Nat) (s:AE×AH×Nat):Prop:=∀(φ:Ph) (h0 h:Hp) (ρ:Env),HR φ H n h0 h->FR φ σ ρ->∃ψ:Ph,((∀b q,b<p->φ b=some q->ψ b=some q)/\(∀q,φ.z q->ψ.z q)/\∀q,ψ.y q->φ.y q)/\HR ψ s.2.1 s.2.2 h0 h/\FR ψ s.1 ρ
noncomputable def P0 (k:Nat) (body:AE->AH->Nat->KP->Prop):KP:=Nat.rec (fun _ _ _=>False) (fun _ ih σ H n=>body σ H n ih) k
inductive aS (p:Nat) (body:AE->AH->Nat->KP->Prop) (σ:AE) (H:AH) (n:Nat):Prop where
 |mk (α:Type) (m:Nat) (st:α->AE×AH) (μ:α->Nat) (a0:α) (h0:Cov p σ H n ((st a0).1,(st a0).2,m)) (h:∀a,body (st a).1 (st a).2 m fun σ' H' n'=>∃a',μ a'<μ a/\Cov p σ' H' n' ((st a').1,(st a').2,m))
 |roll (k:Nat) (h:P0 k body σ H n)
inductive xo (p:Nat) (A:KP->Prop) (B:KP):Prop where
 |go (h:A B)
 |mk (α:Type) (m:Nat) (st:α->AE×AH) (hA:A fun σ H n=>∃a,Cov p σ H n ((st a).1,(st a).2,m)) (hB:∀a,B (st a).1 (st a).2 m)
abbrev DB:=Option Nat×List Nat
abbrev DT:=List (Nat×List DB)
noncomputable def findD (D:DT) (id:Nat):Option (List DB):=List.rec none (fun x _ ih=>Bool.rec ih (some x.2) (Nat.beq x.1 id)) D
noncomputable def ky (σ:AE) (ts:List Nat):AE:=List.rec .nil (fun t _ ih=>rJ (ak (pa t) σ) (pa t) ih) ts
noncomputable def qP (o:Op) (σ:AE) (H:AH) (κ:AV->Prop):Prop:=match o with
 | .move x=>κ (eev σ x)
 | .assign x=>κ (eev σ x)
 | .pick c a b=>AY (eev σ c) (κ (eev σ a)) (κ (eev σ b))
 | .load t a=>s8 t (eev σ a) H κ
 | .binOp op t x y _=>HA op t (eev σ x) (eev σ y) H κ
 | .unOp op _ x=>unP op (eev σ x) κ
 | .indexAddr t x ix=>iU t (eev σ x) (eev σ ix) κ
 | .index t x ix=>rU t (eev σ x) (eev σ ix) κ
 | .slice t x lo hi mx=>gK t (eev σ x) (lo.map (eev σ)) (hi.map (eev σ)) (mx.map (eev σ)) κ
 | .lookup t m k ok=>eE (Hw (eev σ k)) (Ask (jj Tryz.prog t (eev σ m) (hdK (eev σ k)) ok H) κ) (cj (jj Tryz.prog t (eev σ m) (eev σ k) ok H) κ)
 | .call ⟨.builtin .len,xs,ts⟩=>(match ts.toList,xs.toList.map (eev σ)with
  | [t],[x]=>HB t x H κ
  |_,_=>False)
 | .call ⟨.builtin .min,xs,_⟩=>(match xs.toList.map (eev σ)with
  | [x,y]=>mmP false x y κ
  |_=>False)
 | .call ⟨.builtin .max,xs,_⟩=>(match xs.toList.map (eev σ)with
  | [x,y]=>mmP true x y κ
  |_=>False)
 |o=>cj (qy Tryz.prog o σ H) κ
noncomputable def JR (ops:Array Oper) (o:Oper) (b:DB) (cd:CP) (hist:List (AH×Nat)) (σ:AE) (H:AH) (n:Nat) (k:KP):Prop:=
 let go:AE->Prop:=fun σ=>(match b.1 with
  |none=>(match o.op with
   | .call c=>s9 c cd (ky σ b.2) H n fun v H n=>k (cN σ o.dst v) H n
   | .store t a x=>mL t (eev (ky σ b.2) a) (eev (ky σ b.2) x) H n fun v H n=>k (cN σ o.dst v) H n
   | .buildSlice t len parts=>eE (Nat.blt n 1000000) (match H.get n with
    |none=>AZ (.buildSlice t len parts) (ky σ b.2) H n fun v H n=>k (cN σ o.dst v) H n
    |some _=>False) False
   |_=>False)
  |some j=>cj (nth ((H,n)::hist) j) fun r=>qP o.op (ky σ b.2) r.1 fun v=>k (cN σ o.dst v) H n)
 match o.guard with
 |none=>go σ
 |some (j,want)=>(match jq ops j with
  |none=>False
  |some t=>(match ak (pa t) σ with
   | .bool q=>(match q==want with
    |true=>go σ
    |false=>k (cN σ o.dst cM) H n)
   | .sb q=>(match want with
    |true=>ag q (go (cN σ (some t) (.bool true))) (k (cN (cN σ (some t) (.bool false)) o.dst cM) H n)
    |false=>ag q (k (cN (cN σ (some t) (.bool true)) o.dst cM) H n) (go (cN σ (some t) (.bool false))))
   | .tup _=>k (cN σ o.dst cM) H n
   |_=>False))
noncomputable def JS (ops:Array Oper) (l:List Oper):List DB->CP->List (AH×Nat)->AE->AH->Nat->KP->Prop:=
 List.rec (fun _ _ _ σ H n k=>k σ H n) (fun o _ ih bs cd hist σ H n k=>List.rec False (fun b bs' _=>JR ops o b cd hist σ H n fun σ' H' n'=>ih bs' cd ((H,n)::hist) σ' H' n' k) bs) l
def JT (A:List Nat) (i:Nat) (o:Oper):Nat:=o.after.toList.foldl (fun m e=>if Region.binds .any e&&decide (e.on<i)then m|||(2^e.on|||A.getD e.on 0)else m) 0
def rV:List Oper->Nat->List Nat->List Nat
 | [],_,A=>A
 |o::l,i,A=>rV l (i+1) (A++ [JT A i o])
def JU (A:List Nat) (ops:Array Oper):Bool:=(List.range ops.size).all fun i=>match ops[i]? with
 |some o=>A.getD i 0==JT A i o
 |none=>true
def rW (A:List Nat) (j i:Nat):Bool:=(A.getD i 0).testBit j
def tO:Op->Bool
 | .call ⟨.value _,_,_⟩=>true
 | .buildSlice _ _ _=>true
 |_=>false
def lA:Op->Bool
 | .store _ _ _=>true
 |_=>false
def yO (ops:Array Oper) (j:Nat):Bool:=match ops[j]? with
 |some o=>bM o.op
 |none=>false
def tQ (ops:Array Oper) (o:Oper) (ts:List Nat):Bool:=match o.guard with
 |none=>true
 |some (j,_)=>(match jq ops j with
  |some t=>ts.contains t
  |none=>true)
def QW (A:List Nat) (ops:Array Oper) (bs:List DB) (i:Nat):Bool:=match ops[i]?,bs[i]? with
 |some o,some b=>b.2.all (fun t=>(looks ops o).contains t)&&tQ ops o b.2&&(match b.1 with
  |none=>tO o.op||(lA o.op&&(List.range ops.size).all fun j=>Nat.beq j i||rW A j i)
  |some k=>!bM o.op&&(decide (k<=i)&&(List.range (i-k)).all fun j=>!yO ops j||rW A j i))&&
  (List.range i).all fun j=>(match ops[j]? with
   |some a=>a.apart ops o&&(!bM a.op||!bM o.op)
   |none=>true)||rW A j i
 |_,_=>false
def uY (ops:Array Oper) (bs:List DB):Bool:=mD ops&&(JU (rV ops.toList 0 []) ops&&(List.range ops.size).all (QW (rV ops.toList 0 []) ops bs))
def k9:List Nat->List (Nat×Nat)
 |a::b::l=>(a,b)::k9 l
 |_=> []
def iV:List Nat->Nat->Nat->Bool
 | [],_,_=>false
 |x::π,a,b=>Nat.beq x a||(!Nat.beq x b&&iV π a b)
def JV:Nat->List (List Bool)
 |0=> [[]]
 |m+1=>(JV m).flatMap fun l=> [true::l,false::l]
def okL (P:Program) (ops:Array Oper) (R:List (Nat×Nat)):List Nat->List Nat->Bool
 |_,[]=>true
 |acc,i::l=>acc.all (fun j=>ng P ops j i||(nq ops 6 j i||(R.contains (j,i)||R.contains (i,j))))&&okL P ops R (i::acc) l
def E1 (P:Program) (ops:Array Oper) (R:List (Nat×Nat)) (i:Nat):Bool:=match ops[i]? with
 |some o=>(!bM o.op||(rG P o.op||Hk o.op))||R.all fun p=>Nat.beq p.1 i||(Nat.beq p.2 i||(nq ops 6 p.1 i||nq ops 6 p.2 i))
 |none=>true
def QX (p:Nat×Nat) (b:Bool):Nat×Nat:=match b with
 |true=>p
 |false=>(p.2,p.1)
def JW (ops:Array Oper):List Nat:=(List.range ops.size).map fun i=>(List.range i).foldl (fun m j=>bif nq ops 6 j i then m|||2^j else m) 0
def uZ (a b ma:Nat):List Nat->Nat->List Nat
 | [],_=> []
 |m::l,i=>(bif Nat.beq i b||m.testBit b then m|||(2^a|||ma)else m)::uZ a b ma l (i+1)
def JX (A:List Nat) (x:Nat×Nat):List Nat:=uZ x.1 x.2 (A.getD x.1 0) A 0
def JY (A:List Nat) (W:List (Nat×Nat)):Bool:=(List.range A.length).all fun i=>!((W.foldl JX A).getD i 0).testBit i
def P5 (ops:Array Oper) (R:List (Nat×Nat)) (os:List Bool):Bool:=JY (JW ops) ((R.zip os).map fun x=>QX x.1 x.2)
def JZ (P:Program) (ops:Array Oper) (bs:List DB):Bool:=mD ops&&(match bs with
 | []=>false
 |h::πs=>(List.range ops.size).all (E1 P ops (k9 h.2))&&((k9 h.2).all (fun p=>!Nat.beq p.1 p.2)&&(((JV (k9 h.2).length).all fun os=>!P5 ops (k9 h.2) os||πs.any fun π=>(k9 h.2).map (fun p=>iV π.2 p.1 p.2)==os)&&
  πs.all fun π=>decide (π.2.Nodup)&&(π.2.length==ops.size&&(π.2.all (fun i=>decide (i<ops.size))&&okL P ops (k9 h.2) [] π.2)))))
def J0 (bs:List DB):Bool:=match bs with
 |(some k,_)::_=>Nat.beq k 1000000
 |_=>false
noncomputable def xp (l:List Oper) (π:List Nat):List Oper:=List.rec [] (fun i _ ih=>match nth l i with
 |some o=>o::ih
 |none=>ih) π
noncomputable def QY (ops:Array Oper) (πs:List DB) (call:CP) (σ:AE) (H:AH) (n:Nat) (k:KP):Prop:=List.rec True (fun π _ ih=>tE ops (xp ops.toList π.2) call σ H n k/\ih) πs
def Dv (ops:Array Oper) (m:Nat):Bool:=mD ops&&(JU (rV ops.toList 0 []) ops&&(List.range ops.size).all fun i=>Nat.blt i m||(List.range i).all fun j=>rW (rV ops.toList 0 []) j i)
def J1 (bs:List DB):Bool:=match bs with
 |(some k,_)::_=>Nat.beq k 1000001
 |_=>false
noncomputable def J2 (ops:Array Oper) (bs:List DB) (call cd:CP) (σ:AE) (H:AH) (n:Nat) (k:KP):Prop:=match J0 bs with
 |true=>QY ops bs.tail call σ H n k
 |false=>(match Nat.blt bs.length ops.size with
  |true=>JS (Hv ops bs.length) (Hv ops bs.length).toList bs cd [] σ H n fun σ H n=>tE ops (ops.toList.drop bs.length) call σ H n k
  |false=>JS ops ops.toList bs cd [] σ H n k)
noncomputable def Nn (ops:Array Oper) (bs:List DB) (call cd:CP) (σ:AE) (H:AH) (n:Nat) (k:KP):Prop:=match J1 bs with
 |true=>False
 |false=>J2 ops bs call cd σ H n k
def E2 (P:Program) (ops:Array Oper) (bs:List DB):Bool:=J1 bs||match J0 bs with
 |true=>JZ P ops bs
 |false=>(match Nat.blt bs.length ops.size with
  |true=>uY (Hv ops bs.length) bs&&Dv ops bs.length
  |false=>uY ops bs)
noncomputable def lB (D:DT) (c:Code):Bool:=Code.rec (motive:=fun _=>Bool)
 true
 (fun id ops draw=>Bool.rec true (Option.rec (Az Tryz.prog ops) (fun bs=>E2 Tryz.prog ops bs) (findD D id)) draw)
 (fun _ _ a b=>Bool.rec false b a)
 (fun _ _ _ a b=>Bool.rec false b a)
 (fun _ _ b=>b)
 (fun _ b=>b)
 (fun _ _ _ _ _ _=>true)
 (fun _=>true)
 (fun _ b=>b)
 (fun _=>true)
 (fun _=>true)
 true
 (fun _=>true) c
noncomputable def QZ (c:Code):Option Nat:=Code.rec (motive:=fun _=>Option Nat) none (fun id _ _=>some id) (fun _ _ a _=>a) (fun _ _ _ _ _=>none) (fun _ _ b=>b) (fun _ b=>b) (fun _ _ _ _ _ _=>none) (fun _=>none) (fun _ b=>b) (fun _=>none) (fun _=>none) none (fun _=>none) c
noncomputable def Dw (D:DT) (c:Code):Bool:=List.rec false (fun x l _=>Option.rec false (fun id=>Option.rec false (fun _=>true) (findD (x::l) (id+1000000))) (QZ c)) D
noncomputable def jt (p:Nat) (cd:CP) (D:DT) (c:Code):XP:=Code.rec (motive:=fun _=>XP)
 (fun _ σ H n kn _ _=>kn σ H n)
 (fun id ops draw=>Bool.rec (fun call σ H n kn _ _=>HC ops ops.toList call σ H n kn) (Option.rec (fun call σ H n kn _ _=>tE ops ops.toList call σ H n kn) (fun bs call σ H n kn _ _=>Nn ops bs call cd σ H n kn) (findD D id)) draw)
 (fun _ bc a b call σ H n kn kx kr=>Bool.rec (a call σ H n (fun σ H n=>b call σ H n kn kx kr) kx kr) (xo p (fun k=>a call σ H n k kx kr) (fun σ H n=>b call σ H n kn kx kr)) (Dw D bc))
 (fun c _ _ a b call σ H n kn kx kr=>JQ c σ (fun σ=>a call σ H n kn kx kr) (fun σ=>b call σ H n kn kx kr))
 (fun id _ b call σ H n kn kx kr=>b call σ H n kn (fun i σ H n=>eE (Nat.beq i id) (kn σ H n) (kx i σ H n)) kr)
 (fun _ b call σ H n _ kx kr=>aS p (fun σ H n k=>b call σ H n k kx kr) σ H n)
 (fun _ _ _ _ _ _ _ _ _ _ _ _ _=>False)
 (fun i _ σ H n _ kx _=>kx i σ H n)
 (fun _ b call σ H n kn kx kr=>b call σ H n kn kx kr)
 (fun _ _ σ H n kn _ _=>kn σ H n)
 (fun _ _ _ _ _ _ _ _=>False)
 (fun _ σ H n _ _ kr=>kr σ H n)
 (fun _ _ _ _ _ _ _ _=>False) c
noncomputable def A0 (rs:List ResultVar) (σ:AE) (H:AH) (k:List AV->Prop):Prop:=
 List.rec (fun k=>k []) (fun r _ ih k=>ResultVar.rec (fun t=>ih fun vs=>k (ak (pa t) σ::vs)) (fun a t=>s8 t (ak (pa a) σ) H fun v=>ih fun vs=>k (v::vs)) r) rs k
noncomputable def No (call cd:CP) (D:DT) (c:Code) (rs:List ResultVar) (m:Nat) (args:List AV) (H:AH) (n:Nat) (κ:PK):Prop:=
 eE (Nat.ble args.length m) (jt n cd D c call (uL args 0 .nil) H n (fun σ H n=>A0 rs σ H fun vs=>κ (xg vs) H n) (fun _ _ _ _=>False) (fun σ H n=>A0 rs σ H fun vs=>κ (xg vs) H n)) False
inductive EP where
 |no
 |run (D:DT) (c:Code) (rs:List ResultVar) (m:Nat)
 |nat (g:List AV->AH->Nat->PK->Prop)
 |det (g:List AV->AH->Nat->PK->Prop)
noncomputable def tc (F:FuncId->EP):CP:=fun f args H n κ=>EP.rec (fun _ _ _ _=>False) (fun _ _ _ _ _ _ _ _=>False) (fun _ _ _ _ _=>False) (fun g=>g) (F f) args H n κ
noncomputable def ax (F:FuncId->EP) (d:Nat):CP:=Nat.rec (fun _ _ _ _ _=>False) (fun _ ih f args H n κ=>EP.rec (fun _ _ _ _=>False) (fun D c rs m=>No ih (tc F) D c rs m) (fun g=>g) (fun g=>g) (F f) args H n κ) d
noncomputable def xq (D:DT) (f:FuncId):EP:=match Tryz.prog.funcs[f]? with
 |some fn=>(match fn.body with
  |some c=> .run D c fn.results.toList fn.ntmps
  |none=> .no)
 |none=> .no
noncomputable def xr (D:DT) (f:FuncId):Bool:=match Tryz.prog.funcs[f]? with
 |some fn=>(match fn.body with
  |some c=>lB D c
  |none=>false)
 |none=>false
noncomputable def evP (f:FuncId):EP:=Bool.rec .no (Bool.rec .no (xq [] f) (xr [] f)) (PX f)
section
variable {φ:Ph} {H:AH} {n:Nat} {h0 h:Hp} {σ:AE} {ρ:Env}
theorem aP {α:Type} {o:Option α} {k:α->Prop} (h:cj o k):∃a,o=some a/\k a:=by
 cases o with
 |none=>exact h.elim
 |some a=>exact⟨a,rfl,h⟩
theorem ay {α:Type} {o:Option α} {k:α->Prop} {a:α} (h:o=some a) (hk:k a):cj o k:=by subst h;exact hk
theorem fC {b:Bool} {t:Prop} (h:eE b t False):b=true/\t:=by
 cases b with
 |true=>exact⟨rfl,h⟩
 |false=>exact h.elim
theorem Ask.inv {α:Type} {o:Option α} {k:α->Prop} (h:Ask o k):∃a,o=some a/\k a:=by
 obtain⟨a,h1,h2⟩:=h;exact⟨a,h1,h2⟩
theorem VR.hd {a:AV} {v:Value} (h:VR φ a v):VR φ (hd a) v:=by cases a<;>exact h
theorem VRs.hds {l:List AV} {vs:List Value} (h:VRs φ l vs):VRs φ (l.map Go.Proofs.YtflehenfikoniaaGreat.hd) vs:=by
 induction l generalizing vs with
 |nil=>exact h
 |cons a l ih=>
  obtain⟨v,us,rfl,h1,h2⟩:=h.cons_inv;exact .cons h1.hd (ih h2)
theorem VR.hdK {a:AV} {v:Value} (h:VR φ a v):VR φ (hdK a) v:=by
 cases a<;>first|exact h.hd|skip
 obtain⟨cs,rfl,h1⟩:=h.dC;exact .agg h1.hds
theorem VR.mk {a:AV} {v:Value} (h:VR φ a v):VR φ (mk a) v:=by cases a<;>exact h
theorem VRs.P6:∀{l:List AV} {vs:List Value},VRs φ l vs->VRs φ (l.map Go.Proofs.YtflehenfikoniaaGreat.hd) vs
 | [],vs,h=>by rw[h.aM];exact .nil
 |a::l,vs,h=>by
  obtain⟨v,us,rfl,h1,h2⟩:=h.cons_inv;exact .cons h1.hd (VRs.P6 h2)
theorem VR.P7 {l:List AV} {v:Value} (h:VR φ (.agg l) v):VR φ (.agg (l.map Go.Proofs.YtflehenfikoniaaGreat.hd)) v:=by
 obtain⟨cs,rfl,h1⟩:=h.dC;exact .agg h1.P6
theorem ck.then {κ:PK} {K:KH} {v:AV} (hk:ck φ h0 κ K) (h:κ v H n):pK φ h0 v H n K:=fun ψ u g h1 h2 h3=>hk ψ v H n u g h1 h2 h3 h
theorem ck.Q0 {κ:PK} {K:KH} {r:AV×AH×Nat} (hk:ck φ h0 κ K) (h:mk3 κ r):pK φ h0 r.1 r.2.1 r.2.2 K:=fun ψ u g h1 h2 h3=>hk ψ _ _ _ u g h1 h2 h3.mk h
def nS (call:CP):Prop:=∀(f:FuncId) (args:List AV) (H:AH) (n:Nat) (κ:PK),call f args H n κ->∀(φ:Ph) (h0 h:Hp) (vs:Array Value) (K:KH),HR φ H n h0 h->VRs φ args vs.toList->ck φ h0 κ K->dj Tryz.prog f vs h K
theorem pN {P:Program} {op:BinOp} {t:TypeId} {k j:IntKind} {a b:Int} {c:Bool} {κ:AV->Prop} {K:Value->Prop} (hs:Hy op k j a b c κ) (hk:∀r u,κ r->VR φ r u->K u):kh P op t (.int k a) (.int j b) K:=by
 have hi:∀{x},κ (.si k x)->K (.int k x):=fun h=>hk _ _ h (.si _ _)
 have hb:∀{x},κ (.sb x)->K (.bool x):=fun h=>hk _ _ h (.sb _)
 have kd:∀{A:Prop},eE (JF k j) A False->k=j/\A:=fun h=>by
  obtain⟨h1,h2⟩:=fC h;rw[JH]at h1;exact⟨by simpa using h1,h2⟩
 cases op<;>simp only[Hy]at hs
 case shl=>
  cases c with
  |false=>exact⟨hs.1,hi hs.2⟩
  |true=>
   cases hl:ltq b 0 with
   |true=>rw[hl]at hs;exact hs.elim
   |false=>
    rw[hl]at hs;rw[JI]at hl;have:¬b<0:=by simpa using hl
    exact⟨by omega,hi hs⟩
 case shr=>
  cases c with
  |false=>exact⟨hs.1,hi hs.2⟩
  |true=>
   cases hl:ltq b 0 with
   |true=>rw[hl]at hs;exact hs.elim
   |false=>
    rw[hl]at hs;rw[JI]at hl;have:¬b<0:=by simpa using hl
    exact⟨by omega,hi hs⟩
 all_goals(obtain⟨hkj,h2⟩:=kd hs;clear hs;subst hkj)
 case quo=>
  cases c with
  |false=>exact⟨rfl,h2.1,hi h2.2⟩
  |true=>
   cases hl:eqq b 0 with
   |true=>rw[hl]at h2;exact h2.elim
   |false=>
    rw[hl]at h2;rw[JJ]at hl;exact⟨rfl,by simpa using hl,hi h2⟩
 case rem=>
  cases c with
  |false=>exact⟨rfl,h2.1,hi h2.2⟩
  |true=>
   cases hl:eqq b 0 with
   |true=>rw[hl]at h2;exact h2.elim
   |false=>
    rw[hl]at h2;rw[JJ]at hl;exact⟨rfl,by simpa using hl,hi h2⟩
 case neq=>
  refine⟨rfl,?_⟩;have:decide (a≠b)=!decide (a=b):=by simp
  rw[this];exact hb h2
 all_goals first|exact⟨rfl,hi h2⟩|exact⟨rfl,hb h2⟩
theorem pO {P:Program} {op:BinOp} {t:TypeId} {a b:List Nat} {κ:AV->Prop} {K:Value->Prop} (ha:∀x∈a,x<256) (hb:∀x∈b,x<256) (hs:Hz op a b κ) (hk:∀r u,κ r->VR φ r u->K u):kh P op t (.string (dU a)) (.string (dU b)) K:=by
 have key:∀{r:AV},Jy op a b=some r->κ (mk r)->kh P op t (.string (dU a)) (.string (dU b)) K:=fun e h1=>uP (φ:=φ) ha hb e fun u hu=>hk _ u h1 hu.mk
 cases op<;>simp only[Hz]at hs
 case add=>exact key (r:= .str (a++b)) (by simp only[Jy];rw[if_pos hs.1]) hs.2
 all_goals first|exact hs.elim|exact key rfl hs
theorem pP {op:BinOp} {t:TypeId} {a b:Bool} {κ:AV->Prop} {K:Value->Prop} (hs:JN op t a b κ) (hk:∀r u,κ r->VR φ r u->K u):kh Tryz.prog op t (.bool a) (.bool b) K:=by
 obtain⟨h1,h2⟩:=fC hs;have ht:=qA h1;cases op<;>first|exact h2.elim|exact⟨ht,hk _ _ h2 (.sb _)⟩
theorem u0 (hr:HR φ H n h0 h) {op:BinOp} {t:TypeId} {x y:AV} {v u:Value} {κ:AV->Prop} {K:Value->Prop} (hx:VR φ x v) (hy:VR φ y u) (hs:HA op t x y H κ) (hk:∀r u,κ r->VR φ r u->K u):jn Tryz.prog op t v u h K:=by
 unfold HA at hs;split at hs
 ·obtain⟨r,h1,h2⟩:=aP hs;rw[hx.bV,hy.bV];show kh Tryz.prog op t (.int _ _) (.int _ _) K;exact uO (φ:=φ) h1 fun u hu=>hk _ u h2 hu
 ·rw[hx.bV,hy.fy];exact pN (P:=Tryz.prog) (t:=t) hs hk
 ·rw[hx.fy,hy.bV];exact pN (P:=Tryz.prog) (t:=t) hs hk
 ·rw[hx.fy,hy.fy];exact pN (P:=Tryz.prog) (t:=t) hs hk
 ·obtain⟨rfl,h1⟩:=hx.rN;obtain⟨rfl,h2⟩:=hy.rN;exact pO (P:=Tryz.prog) (t:=t) h1 h2 hs hk
 ·obtain⟨rfl,h1⟩:=hx.rN;obtain⟨rfl,h2⟩:=hy.cr;exact pO (P:=Tryz.prog) (t:=t) h1 h2 hs hk
 ·obtain⟨rfl,h1⟩:=hx.cr;obtain⟨rfl,h2⟩:=hy.rN;exact pO (P:=Tryz.prog) (t:=t) h1 h2 hs hk
 ·rw[hx.jE,hy.jE];exact pP hs hk
 ·rw[hx.jE,hy.bQ];exact pP hs hk
 ·rw[hx.bQ,hy.jE];exact pP hs hk
 ·rename_i xs ys;cases hb:(xs.any isS||ys.any isS)with
  |true=>
   rw[hb]at hs;obtain⟨r,h1,h2⟩:=aP hs;exact mH hr hx.P7 hy.P7 h1 fun u hu=>hk _ u h2 hu.mk
  |false=>
   rw[hb]at hs;obtain⟨r,h1,h2⟩:=aP hs;exact mH hr hx hy h1 fun u hu=>hk _ u h2 hu
 ·obtain⟨r,h1,h2⟩:=aP hs;exact mH hr hx hy h1 fun u hu=>hk _ u h2 hu
theorem xt {op:UnOp} {x:AV} {v:Value} {κ:AV->Prop} {K:Value->Prop} (hx:VR φ x v) (hs:unP op x κ) (hk:∀r u,κ r->VR φ r u->K u):aun op v K:=by
 unfold unP at hs;split at hs
 ·rw[hx.jE];exact hk _ _ hs (.sb _)
 ·rw[hx.fy];exact hk _ _ hs (.si _ _)
 ·rw[hx.fy];exact hk _ _ hs (.si _ _)
 ·obtain⟨r,h1,h2⟩:=aP hs;exact xj hx h1 fun u hu=>hk _ u h2 hu
theorem ib {q:Bool} {x y:AV} {v u:Value} {κ:AV->Prop} {K:Value->Prop} (hx:VR φ x v) (hy:VR φ y u) (hs:mmP q x y κ) (hk:∀r u,κ r->VR φ r u->K u):cn q v u K:=by
 unfold mmP at hs;split at hs
 ·rw[hx.fy,hy.fy];exact hk _ _ hs (.si _ _)
 ·rw[hx.fy,hy.bV];exact hk _ _ hs (.si _ _)
 ·rw[hx.bV,hy.fy];exact hk _ _ hs (.si _ _)
 ·obtain⟨r,h1,h2⟩:=aP hs;exact rR hx hy h1 fun u hu=>hk _ u h2 hu
theorem u4 (hr:HR φ H n h0 h) {t:TypeId} {x:AV} {v:Value} {κ:AV->Prop} {K:Value->Prop} (hx:VR φ x v) (hs:HB t x H κ) (hk:∀r u,κ r->VR φ r u->K u):lD Tryz.prog t v h K:=by
 unfold HB at hs;split at hs
 ·obtain⟨r,h1,h2⟩:=aP hs;exact mI hr hx.hd h1 fun u hu=>hk _ u h2 hu.mk
 ·obtain⟨r,h1,h2⟩:=aP hs;exact mI hr hx.hd h1 fun u hu=>hk _ u h2 hu.mk
 ·obtain⟨h1,h2⟩:=fC hs
  have hu:∃e,Tryz.prog.underlying t=some (.slice e):=by
   unfold uH at h1;split at h1
   ·rename_i e;exact⟨_,e⟩
   ·cases h1
  obtain⟨e,hu⟩:=hu;rcases hx.gz with⟨rfl,he⟩|⟨p,a,C,_,rfl,_⟩
  ·obtain⟨_,rfl⟩:=he.is;simp only[lD,hu];exact hk _ _ h2 (.si _ _)
  ·(try simp only[lD,hu]);exact hk _ _ h2 (.si _ _)
 ·obtain⟨h1,h2⟩:=fC hs
  have hu:∃e,Tryz.prog.underlying t=some (.slice e):=by
   unfold uH at h1;split at h1
   ·rename_i e;exact⟨_,e⟩
   ·cases h1
  obtain⟨e,hu⟩:=hu;obtain⟨a,C,rfl⟩:=hx.JD
  (try simp only[lD,hu]);exact hk _ _ h2 (.si _ _)
 ·obtain⟨r,h1,h2⟩:=aP hs;exact mI hr hx h1 fun u hu=>hk _ u h2 hu
theorem kz {ix:AV} {len:Nat} {s:Bool} {v:Value} {κ:Nat->Prop} (hx:VR φ ix v) (hs:ixP ix len s κ):∃i,i<len/\(∃k,v= .int k (i:Int))/\κ i:=by
 unfold ixP at hs;split at hs
 ·obtain⟨j,rfl,h1,h2⟩:=hs;exact⟨j,h1,⟨_,hx.fy⟩,h2⟩
 ·obtain⟨j,rfl,h1,h2⟩:=hs;exact⟨j,h1,⟨_,hx.bV⟩,h2⟩
 ·obtain⟨i,h1,h2⟩:=aP hs;obtain⟨h3,h4⟩:=nO hx h1;exact⟨i,h3,h4,h2⟩
theorem lO {t:TypeId} {x ix:AV} {v u:Value} {κ:AV->Prop} {K:Value->Prop} (hx:VR φ x v) (hi:VR φ ix u) (hs:iU t x ix κ) (hk:∀r u,κ r->VR φ r u->K u):cm Tryz.prog t v u K:=by
 have sl:∀{e b o m c k s},Tryz.prog.underlying t=some (.slice e)->VR φ (.sl b o m c k) v->cj (aB Tryz.prog e) (fun k=>ixP ix m s fun i=>κ (.ptr b (o+i*k)))->cm Tryz.prog t v u K:=fun{e b o m c k s} hu hx hs=>by
  obtain⟨es,h1,h2⟩:=aP hs;obtain⟨i,h3,⟨kk,rfl⟩,h4⟩:=kz hi h2;obtain⟨p,C,hp,rfl,_,_⟩:=hx.eo
  (try simp only[cm,hu,h1])
  refine⟨by omega,by omega,?_⟩;rw[Int.toNat_natCast,Nat.add_assoc];exact hk _ _ h4 (.ptr hp)
 unfold iU at hs;split at hs
 ·rename_i hu;exact sl hu hx hs
 ·rename_i hu;exact sl hu hx.hd hs
 ·rename_i hu;obtain⟨es,h1,h2⟩:=aP hs;obtain⟨i,h3,⟨kk,rfl⟩,h4⟩:=kz hi h2;rcases hx.gz with⟨h5,_⟩|⟨p,a,C,hp,rfl,ha,_⟩
  ·omega
  have ha:=ha (by omega);subst ha
  (try simp only[cm,hu,h1])
  refine⟨by omega,by omega,?_⟩;rw[Int.toNat_natCast,Nat.add_assoc];exact hk _ _ h4 (.ptr hp)
 ·rename_i hu;obtain⟨es,h1,h2⟩:=aP hs;obtain⟨hes,h2b⟩:=fC h2;have:=Nat.eq_of_beq_eq_true hes;subst this;obtain⟨i,h3,⟨kk,rfl⟩,h4⟩:=kz hi h2b;rcases hx.rO with⟨h5,_⟩|⟨q,y,C,hq,rfl,hC,hl⟩
  ·omega
  (try simp only[cm,hu,h1])
  refine⟨by omega,by omega,?_⟩;rw[Int.toNat_natCast]
  have hlen:∀{n:Nat} {l:List AV},bp q.L y n=some l->bp q.L y l.length=some l:=fun{n l} hl=>by
   have:l.length=n:=by obtain⟨g1,g2⟩:=bu hl;rw[g2];simp;omega
   rw[this];exact hl
  exact hk _ _ h4 (.fa hq (hlen hl))
 ·rename_i len el b o hu;obtain⟨es,h1,h2⟩:=aP hs;obtain⟨i,h3,⟨kk,rfl⟩,h4⟩:=kz hi h2;obtain⟨p,hp,rfl⟩:=hx.ct
  (try simp only[cm,hu,h1])
  refine⟨by omega,by omega,?_⟩;rw[Int.toNat_natCast,Nat.add_assoc];exact hk _ _ h4 (.ptr hp)
 ·exact hs.elim
theorem qC {t:TypeId} {x ix:AV} {v u:Value} {κ:AV->Prop} {K:Value->Prop} (hx:VR φ x v) (hi:VR φ ix u) (hs:rU t x ix κ) (hk:∀r u,κ r->VR φ r u->K u):jD Tryz.prog t v u K:=by
 have str:∀{s:List Nat} {i c:Nat} {kk:IntKind} {q:Bool},Tryz.prog.underlying t=some .string->VR φ (.str s) v->u= .int kk (i:Int)->i<s.length->nth s i=some c->(∀u,VR φ (.int .u8 (Int.ofNat c)) u->K u)->jD Tryz.prog t v u K:=fun{s i c kk q} hu hx he hlt hc hk=>by
  obtain⟨rfl,hs⟩:=hx.cr;subst he;rw[fA]at hc;have h2:=hs c (List.mem_of_getElem? hc);simp only[jD,hu,cS,Int.toNat_natCast,List.getElem?_map,hc,Option.map_some];refine⟨by omega,hk _ ?_⟩
  have:((UInt8.ofNat c).toNat:Int)=Int.ofNat c:=by
   rw[UInt8.toNat_ofNat',Nat.mod_eq_of_lt h2];rfl
  rw[this];exact .int _ _
 unfold rU at hs;split at hs
 ·rename_i len el l hu;obtain⟨cs,rfl,hl⟩:=hx.dC;obtain⟨k,h1,h2⟩:=aP hs;obtain⟨i,h3,⟨kk,rfl⟩,h4⟩:=kz hi h2;obtain⟨r,h5,h6⟩:=aP h4
  (try simp only[jD,hu,h1])
  refine⟨by omega,by omega,?_⟩;rw[Int.toNat_natCast];exact nN hl h5 fun u hu=>hk _ u h6 hu
 ·rename_i s hu;obtain⟨i,h3,⟨kk,he⟩,h4⟩:=kz hi hs;obtain⟨c,h5,h6⟩:=aP h4;refine str (q:=true) hu hx he h3 h5 fun u hu=>?_
  split at h6
  ·exact hk _ u h6 hu
  ·exact hk _ u h6 hu.mk
 ·rename_i s hu;obtain⟨i,h3,⟨kk,he⟩,h4⟩:=kz hi hs;obtain⟨c,h5,h6⟩:=h4.inv;exact str (q:=true) hu hx.hd he h3 h5 fun u hu=>hk _ u h6 hu.mk
 ·exact hs.elim
theorem xu {l:List AV} {t:TypeId} {b o:Nat} {κ:AV->Prop} {z:Bool} (hb:H.get b=some (.cells l z)∨H.get b=some (.ro l)) (hs:uW l t o κ):∃r,xd Tryz.prog t (.ptr b o) H=some r/\κ r:=by
 unfold uW at hs;split at hs
 ·rename_i hg;obtain⟨r,h1,h2⟩:=aP hs;exact⟨r,by rcases hb with hb|hb<;>simp only[xd,hb,hg,h1],h2⟩
 ·rename_i hg;obtain⟨m,h1,h2⟩:=aP hs;obtain⟨r,h3,h4⟩:=aP h2;exact⟨.agg r,by rcases hb with hb|hb<;>simp only[xd,hb,hg,h1,h3,Option.map_some],h4⟩
 ·exact hs.elim
theorem nT (hr:HR φ H n h0 h) {t:TypeId} {a:AV} {v:Value} {κ:AV->Prop} {K:Value->Prop} (ha:VR φ a v) (hs:s8 t a H κ) (hk:∀r u,κ r->VR φ r u->K u):ki Tryz.prog t v h K:=by
 unfold s8 at hs;split at hs
 ·split at hs
  ·rename_i hb;obtain⟨r,h1,h2⟩:=xu (.inl hb) hs;exact nM hr ha h1 fun u hu=>hk _ u h2 hu
  ·rename_i hb;obtain⟨r,h1,h2⟩:=xu (z:=true) (.inr hb) hs;exact nM hr ha h1 fun u hu=>hk _ u h2 hu
  ·exact hs.elim
 ·rename_i l o;obtain⟨q,y,hq,rfl,hl⟩:=ha.yH;obtain⟨⟨⟨_,c,tt,fz,hc,hsz,hcr⟩,_⟩,_⟩:=hr.frz q hq
  have hcl:CR φ c (q.s+y) l:=by
   obtain⟨g1,g2⟩:=bu hl;rw[g2];exact CR.drop hcr
  unfold uW at hs
  (try simp only[ki,hc])
  split at hs
  ·rename_i hg;obtain⟨r,h1,h2⟩:=aP hs;obtain⟨v,g1,g2⟩:=hcl.nth h1
   (try simp only[hg,g1])
   exact hk _ _ h2 g2
  ·rename_i hg;obtain⟨m,h1,h2⟩:=aP hs;obtain⟨r,h3,h4⟩:=aP h2;obtain⟨vs,g1,g2⟩:=hcl.sub h3
   (try simp only[hg,h1,g1])
   exact hk _ _ h4 (.agg (by simpa using g2))
  ·exact hs.elim
 ·exact hs.elim
theorem qD (hr:HR φ H n h0 h) {t:TypeId} {a x:AV} {av xv:Value} {κ:PK} {K:KH} (ha:VR φ a av) (hx:VR φ x xv) (hs:mL t a x H n κ) (hk:ck φ h0 κ K):ny Tryz.prog t av xv h K:=by
 unfold mL at hs;split at hs
 ·split at hs
  ·rename_i l z hb;obtain⟨s,h1,h2⟩:=aP hs;obtain⟨h3,h4⟩:=fC h2;obtain⟨l',h5,h6⟩:=aP h4;refine qB hr ha hx (r:=cM) ?_ (hk.then h6)
   (try simp only[yE,hb,h1,h3,h5])
  ·exact hs.elim
 ·exact hs.elim
theorem xx {κ:PK} {K:KH} {q:Bool} {e e':AR} {A:Prop} (hk:ck φ h0 κ K) (hs:eE q (Ask e' (mk3 κ)) (cj e (un3 κ)))
 (a:∀r H' n',e=some (r,H',n')->pK φ h0 r H' n' K->A) (b:∀r H' n',e'=some (r,H',n')->pK φ h0 r H' n' K->A):A:=by
 cases q with
 |true=>
  obtain⟨r,h1,h2⟩:=Ask.inv hs;exact b _ _ _ h1 (hk.Q0 h2)
 |false=>
  obtain⟨r,h1,h2⟩:=aP hs;exact a _ _ _ h1 (hk.then h2)
theorem xy {c:AV} {v:Value} {A B:Prop} (hc:VR φ c v) (hs:AY c A B):∃q,v= .bool q/\(q=true->A)/\(q=false->B):=by
 unfold AY at hs;split at hs
 ·exact⟨true,hc.bQ,fun _=>hs,fun k=>by cases k⟩
 ·exact⟨false,hc.bQ,(fun k=>by cases k),fun _=>hs⟩
 ·rename_i q;exact⟨q,hc.jE,hs.t,hs.f⟩
 ·exact hs.elim
theorem HD:∀f,COk Tryz.prog f (JG f):=fun f args H n v H' n' e=>by cases e
theorem td (hr:HR φ H n h0 h) (hf:FR φ σ ρ) {o:Op} {κ:PK} {K:KH} (hs:AZ o σ H n κ) (hk:ck φ h0 κ K):bE Tryz.prog o ρ h K:=by
 obtain⟨⟨v,H',n'⟩,h1,h2⟩:=aP hs;exact AS HD hr hf h1 (hk.then h2)
theorem HE (hf:FR φ σ ρ) {t:TypeId} {x r:AV} {v:Value} {lo hi mx:Option Operand} {K:Value->Prop} (hx:VR φ x v) (e:iR Tryz.prog t (hd x) ((lo.map (eev σ)).map hd) ((hi.map (eev σ)).map hd) ((mx.map (eev σ)).map hd)=some r)
 (hk:∀u,VR φ r u->K u):da Tryz.prog t v (lo.map ρ.ev) (hi.map ρ.ev) (mx.map ρ.ev) K:=by
 have key:∀(l h m:Option AV) (lv hv mv:Option Value),(∀a,l=some a->∃u,lv=some u/\VR φ a u)->(l=none->lv=none)->(∀a,h=some a->∃u,hv=some u/\VR φ a u)->(h=none->hv=none)->(∀a,m=some a->∃u,mv=some u/\VR φ a u)->(m=none->mv=none)->
  iR Tryz.prog t (hd x) l h m=some r->da Tryz.prog t v lv hv mv K:=by
  intro l h m lv hv mv a1 a2 a3 a4 a5 a6 e
  let σ':AE:=((PM.nil.set l eg 0).set h eg 1).set m eg 2
  let ρ':Env:=fun i=>if i=0 then lv.getD undef else if i=1 then hv.getD undef else mv.getD undef
  have hf':FR φ σ' ρ':=fun i a ha=>by
   rcases PM.aj eg _ 2 i a ha with⟨rfl,h2⟩|⟨h1,h2⟩
   ·obtain⟨u,rfl,h3⟩:=a5 a h2;exact h3
   ·rcases PM.aj eg _ 1 i a h2 with⟨rfl,h4⟩|⟨h3,h4⟩
    ·obtain⟨u,rfl,h3⟩:=a3 a h4;exact h3
    ·rcases PM.aj eg _ 0 i a h4 with⟨rfl,h6⟩|⟨h5,h6⟩
     ·obtain⟨u,rfl,h3⟩:=a1 a h6;exact h3
     ·cases h6
  have sl:∀(i:Nat) (q:Option AV) (qv:Option Value),(∀a,q=some a->ak (pa i) σ'=a/\∃u,qv=some u/\ρ' i=u)->(q=none->qv=none)->∃o:Option Operand,o.map (eev σ')=q/\o.map ρ'.ev=qv:=fun i q qv b1 b2=>by
   cases q with
   |none=>exact⟨none,rfl,by rw[b2 rfl];rfl⟩
   |some a=>
    obtain⟨c1,u,c2,c3⟩:=b1 a rfl
    exact⟨some (.tmp i),by simp only[Option.map_some,eev,c1],by simp only[Option.map_some,Env.ev,c2,c3]⟩
  obtain⟨o1,p1,q1⟩:=sl 0 l lv (fun a ha=>by subst ha;obtain⟨u,rfl,_⟩:=a1 a rfl;exact⟨by cases h<;>cases m<;>rfl,u,rfl,rfl⟩) a2;obtain⟨o2,p2,q2⟩:=sl 1 h hv (fun a ha=>by subst ha;obtain⟨u,rfl,_⟩:=a3 a rfl;exact⟨by cases l<;>cases m<;>rfl,u,rfl,rfl⟩) a4;obtain⟨o3,p3,q3⟩:=sl 2 m mv (fun a ha=>by subst ha;obtain⟨u,rfl,_⟩:=a5 a rfl;exact⟨by cases l<;>cases h<;>rfl,u,rfl,rfl⟩) a6;rw[<-q1,<-q2,<-q3];rw[<-p1,<-p2,<-p3]at e;exact mJ hf' hx.hd e hk
 have s1:∀(o:Option Operand) (a:AV),(o.map (eev σ)).map hd=some a->∃u,o.map ρ.ev=some u/\VR φ a u:=fun o a ha=>by
  cases o with
  |none=>cases ha
  |some y=>injection ha with ha;subst ha;exact⟨_,rfl,(hf.ev y).hd⟩
 have s2:∀o:Option Operand,(o.map (eev σ)).map hd=none->o.map ρ.ev=none:=fun o ha=>by
  cases o with
  |none=>rfl
  |some y=>cases ha
 exact key _ _ _ _ _ _ (s1 lo) (s2 lo) (s1 hi) (s2 hi) (s1 mx) (s2 mx) e
theorem qE (hf:FR φ σ ρ) {x:Option Operand} {d i:Nat} (e:lG ((x.map (eev σ)).map hd) d=some i) (d':Int) (hd':x=none->(i:Int)=d'):bnd (x.map ρ.ev) d'=some (i:Int):=by
 cases x with
 |none=>simp only[Option.map_none,bnd];rw[hd' rfl]
 |some y=>
  simp only[Option.map_some,lG]at e;have hy:=(hf.ev y).hd;split at e
  ·rename_i q;cases q
  ·rename_i k j q;injection e with e;subst e;injection q with q;rw[q]at hy;simp only[Option.map_some,hy.bV,bnd];rfl
  ·cases e
theorem HF (hf:FR φ σ ρ) {t:TypeId} {b o m k q:Nat} {v:Value} {lo hi mx:Option Operand} {κ:AV->Prop} {K:Value->Prop} (hx:VR φ (.rw b o m k q) v) (hs:JO t b o m k q (lo.map (eev σ)) (hi.map (eev σ)) (mx.map (eev σ)) κ)
 (hk:∀r u,κ r->VR φ r u->K u):da Tryz.prog t v (lo.map ρ.ev) (hi.map ρ.ev) (mx.map ρ.ev) K:=by
 unfold JO at hs;split at hs
 case h_2=>exact hs.elim
 rename_i e hu;obtain⟨es,h1,h2⟩:=aP hs;obtain⟨h3,l,hh,hl,he,hm,g1,g2,h4⟩:=fC h2;have:=Nat.eq_of_beq_eq_true h3;subst this;have e1:=qE hf hl 0 (fun q=>by subst q;rw[cZ hl];rfl);have e2:=qE hf he (m:Int) (fun q=>by subst q;rw[cZ he])
 have him:(Option.map ρ.ev mx).isSome=true->(Option.map ρ.ev hi).isSome=true:=fun q'=>by
  rw[isSome_map]at q'⊢;rcases hm with hm|⟨hm,_⟩
  ·cases mx with
   |none=>cases q'
   |some y=>cases hm
  ·rw[isSome_map]at hm;exact hm
 have hno:hi=none->hh=m:=fun q=>by subst q;exact cZ he
 have hlo:lo=none->l=0:=fun q=>by subst q;exact cZ hl
 have key:∀(base:Option Addr) (C M:Nat),bnd (mx.map ρ.ev) (C:Int)=some (M:Int)->hh<=M->M<=C->K (iw base l hh M es)->da Tryz.prog t (.slice base m C) (lo.map ρ.ev) (hi.map ρ.ev) (mx.map ρ.ev) K:=fun base C M e3 hM hMC hK=>by
  (try simp only[da,hu,h1,e1,e2,e3])
  refine⟨him,by omega,by omega,?_,by omega,?_⟩
  ·unfold uv;split
   ·trivial
   ·omega
  ·rw[Int.toNat_natCast,Int.toNat_natCast,Int.toNat_natCast];exact hK
 have bm:∀C:Nat,hh<=C->∃M:Nat,bnd (mx.map ρ.ev) (C:Int)=some (M:Int)/\hh<=M/\M<=C/\(mx=none->M=C)/\(mx≠none->M=hh):=fun C hC=>by
  rcases hm with hm|⟨_,hm⟩
  ·have hmn:mx=none:=by cases mx with|none=>rfl|some y=>cases hm
   subst hmn;exact⟨C,rfl,hC,Nat.le_refl _,fun _=>rfl,fun q=>absurd rfl q⟩
  ·by_cases hmn:mx=none
   ·subst hmn;exact⟨C,rfl,hC,Nat.le_refl _,fun _=>rfl,fun q=>absurd rfl q⟩
   ·exact⟨hh,qE hf hm (C:Int) (fun q=>absurd q hmn),Nat.le_refl _,hC,fun q=>absurd q hmn,fun _=>rfl⟩
 have hlen:rwN m l hh (lo.map (eev σ)) (hi.map (eev σ))=hh-l:=by
  cases lo<;>cases hi
  ·have:=hno rfl;have:=hlo rfl;show m=hh-l;omega
  ·have:=hlo rfl;show hh=hh-l;omega
  ·have:=hno rfl;show m-l=hh-l;omega
  ·rfl
 have hoff:rwO o es l (lo.map (eev σ))=o+l*es:=by
  cases lo
  ·have:=hlo rfl;subst this;show o=o+0*es;omega
  ·rfl
 rcases hx.gz with⟨rfl,hem⟩|⟨p,a,C,hp,rfl,ha,g3,g4,g7,g5,g6⟩
 ·obtain⟨base,rfl⟩:=hem.is;have hh0:hh=0:=by omega
  have hl0:l=0:=by omega
  obtain⟨M,e3,hM,hMC,_,_⟩:=bm 0 (by omega);have hM0:M=0:=by omega
  refine key base 0 M e3 hM hMC (hk _ _ h4 ?_);unfold EY;rw[hlen,hoff,hh0,hl0,hM0];show VR φ _ (.slice base 0 0);refine .rwe rfl ?_
  rcases hem with h|⟨h4,a,h⟩
  ·exact .inl h
  ·subst h4;cases hi with
   |none=>exact .inr ⟨rfl,a,h⟩
   |some y=>
    cases mx with
    |none=>exact .inr ⟨rfl,a,h⟩
    |some z=>exact .inr ⟨rfl,a,h⟩
 ·obtain⟨M,e3,hM,hMC,hM1,hM2⟩:=bm C (by omega);refine key _ C M e3 hM hMC (hk _ _ h4 ?_);unfold EY;rw[hlen,hoff,jV]
  have hmul:l*es+(M-l)*es<=C*es:=by
   rw[<-Nat.add_mul];exact Nat.mul_le_mul_right es (by omega)
  have hmul2:l*es+(hh-l)*es<=m*es:=by
   rw[<-Nat.add_mul];exact Nat.mul_le_mul_right es (by omega)
  have hx5:rwX q (hi.map (eev σ)) (mx.map (eev σ))=1->M-l=hh-l:=by
   cases hi with
   |none=>
    have hmn:mx=none:=by
     cases mx with
     |none=>rfl
     |some y=>have:=him rfl;cases this
    subst hmn;intro hq;have:=g6 hq;have:=hno rfl
    have:=hM1 rfl
    omega
   |some y=>
    cases mx with
    |none=>
     intro hq;exfalso
     have hq:(match q with
      |0=>0
      |1=>0
      |x+2=>x+2)=1:=hq
     split at hq<;>omega
    |some z=>intro _;rw[hM2 (by simp)]
  have hx6:rwX q (hi.map (eev σ)) (mx.map (eev σ))<2->a+l*es+(M-l)*es<=p.s+p.T:=by
   cases hi with
   |none=>intro hq;have:=g5 hq;omega
   |some y=>
    cases mx with
    |none=>
     intro hq
     have hq:(match q with
      |0=>0
      |1=>0
      |x+2=>x+2)<2:=hq
     split at hq
     ·have:=g5 (by omega);omega
     ·have:=g5 (by omega);omega
     ·omega
    |some z=>intro _;rw[hM2 (by simp)];omega
  split
  ·rename_i hMl;subst hMl;have e0:(M-M)*es=0:=by rw[Nat.sub_self,Nat.zero_mul]
   have e1:(hh-M)*es=0:=by rw[show hh-M=0 from by omega,Nat.zero_mul]
   have:0<=m*es:=Nat.zero_le _;exact .rwx hp (fun hne=>by omega) g3 (by omega) (by omega) (fun hq=>by omega) hx5
  ·exact .rwx hp (fun hne=>by have:=ha (by omega);omega) (by omega) (by omega) (by omega) hx6 hx5
theorem HG {α:Type} {M L:List α} {o n l:Nat} (h:bp M o n=some L) (hl:l<=n):bp M (o+l) (n-l)=some (L.drop l):=by
 obtain⟨h1,rfl⟩:=bu h;unfold bp;rw[Nat.ble_eq_true_of_le (by omega)];simp only[List.drop_take,List.drop_drop]
theorem HH {α:Type} {M L:List α} {o n l:Nat} (h:bp M o n=some L) (hl:l<=n):bp M o l=some (L.take l):=by
 obtain⟨h1,rfl⟩:=bu h;unfold bp;rw[Nat.ble_eq_true_of_le (by omega)];simp only[List.take_take];rw[Nat.min_eq_left hl]
theorem HI (hf:FR φ σ ρ) {t:TypeId} {m k:Nat} {L:List AV} {v:Value} {lo hi:Option Operand} {κ:AV->Prop} {K:Value->Prop} (hx:VR φ (.fr m k L) v) (hs:JP t m k L (lo.map (eev σ)) (hi.map (eev σ)) κ)
 (hk:∀r u,κ r->VR φ r u->K u):da Tryz.prog t v (lo.map ρ.ev) (hi.map ρ.ev) none K:=by
 unfold JP at hs;split at hs
 case h_2=>exact hs.elim
 rename_i e hu;obtain⟨es,h1,h2⟩:=aP hs;obtain⟨h3,l,hh,hl,he,hm,g1,g2,h4⟩:=fC h2;have:=Nat.eq_of_beq_eq_true h3;subst this;have e1:=qE hf hl 0 (fun q=>by subst q;rw[cZ hl];rfl);have e2:=qE hf he (m:Int) (fun q=>by subst q;rw[cZ he]);have hno:hi=none->hh=m:=fun q=>by subst q;exact cZ he
 have hlo:lo=none->l=0:=fun q=>by subst q;exact cZ hl
 have key:∀(base:Option Addr) (C:Nat),m<=C->K (iw base l hh C es)->da Tryz.prog t (.slice base m C) (lo.map ρ.ev) (hi.map ρ.ev) none K:=fun base C hC hK=>by
  have e3:bnd (none:Option Value) (C:Int)=some (C:Int):=rfl
  (try simp only[da,hu,h1,e1,e2,e3])
  refine⟨fun q=>(by cases q),by omega,by omega,?_,by omega,?_⟩
  ·unfold uv;split
   ·trivial
   ·omega
  ·rw[Int.toNat_natCast,Int.toNat_natCast,Int.toNat_natCast];exact hK
 have hlen:rwN m l hh (lo.map (eev σ)) (hi.map (eev σ))=hh-l:=by
  cases lo<;>cases hi
  ·have:=hno rfl;have:=hlo rfl;show m=hh-l;omega
  ·have:=hlo rfl;show hh=hh-l;omega
  ·have:=hno rfl;show m-l=hh-l;omega
  ·rfl
 have hfr:L.length=m*es->frL es L l hh (lo.map (eev σ)) (hi.map (eev σ))=(L.drop (l*es)).take ((hh-l)*es):=fun hL=>by
  cases lo<;>cases hi
  ·have:=hno rfl;have:=hlo rfl
   subst this;show L=_;rw[Nat.zero_mul,List.drop_zero,List.take_of_length_le (by rw[hL];subst_vars;simp)]
  ·have:=hlo rfl
   subst this;show L.take (hh*es)=_;rw[Nat.zero_mul,List.drop_zero,Nat.sub_zero]
  ·have:=hno rfl
   show L.drop (l*es)=_;rw[List.take_of_length_le];rw[List.length_drop,hL,Nat.sub_mul];subst_vars;exact Nat.le_refl _
  ·rfl
 rcases hx.rO with⟨rfl,rfl,a,C,rfl,ha⟩|⟨q,y,C,hq,rfl,hC,hsub⟩
 ·have hh0:hh=0:=by omega
  have hl0:l=0:=by omega
  subst hh0 hl0;refine key a C (Nat.zero_le _) (hk _ _ h4 ?_);rw[hlen,hfr (by simp)];show VR φ (.fr (0-0) es ((([]:List AV).drop (0*es)).take ((0-0)*es))) (iw a 0 0 C es);have e5:((([]:List AV).drop (0*es)).take ((0-0)*es))=[]:=by simp
  rw[e5];unfold iw;refine .fre fun q=>?_
  split at q
  ·have:=ha q;omega
  ·cases a with
   |none=>have:=ha rfl;omega
   |some _=>cases q
 ·have hL:L.length=m*es:=by obtain⟨g5,g6⟩:=bu hsub;rw[g6];simp;omega
  have hle:l*es+(hh-l)*es<=m*es:=by rw[<-Nat.add_mul];exact Nat.mul_le_mul_right _ (by omega)
  have hs2:bp q.L (y+l*es) ((hh-l)*es)=some ((L.drop (l*es)).take ((hh-l)*es)):=HH (HG hsub (by omega)) (by omega);refine key _ C hC (hk _ _ h4 ?_);rw[hlen,hfr hL];unfold iw;split
  ·rename_i hMl;have h0:hh-l=0:=by omega
   rw[h0,Nat.zero_mul,List.take_zero];exact .fre fun q=>by cases q
  ·have e6:Option.map (fun x:Addr=>x.add (l*es)) (some ⟨q.B,q.s+y,none⟩)=some ⟨q.B,q.s+(y+l*es),none⟩:=by
    simp only[Option.map_some,Addr.add];split
    ·rename_i h0;rw[h0];rfl
    ·rw[Nat.add_assoc]
   rw[e6];exact .fr hq (by omega) hs2
theorem qF (hf:FR φ σ ρ) {t:TypeId} {x:Operand} {lo hi mx:Option Operand} {κ:AV->Prop} {K:Value->Prop} (hs:gK t (eev σ x) (lo.map (eev σ)) (hi.map (eev σ)) (mx.map (eev σ)) κ) (hk:∀r u,κ r->VR φ r u->K u):da Tryz.prog t (ρ.ev x) (lo.map ρ.ev) (hi.map ρ.ev) (mx.map ρ.ev) K:=by
 by_cases hx:∃b o n k q,eev σ x= .rw b o n k q
 ·obtain⟨b,o,m,k,q,hx⟩:=hx;have hv:=hf.ev x;rw[hx]at hs hv;exact HF hf hv hs hk
 by_cases hy:∃n k q,eev σ x= .fr n k q
 ·obtain⟨m,k,q,hy⟩:=hy;have hv:=hf.ev x;rw[hy]at hs hv;cases mx with
  |none=>exact HI hf hv hs hk
  |some y=>exact hs.elim
 have h:gK t (eev σ x) (lo.map (eev σ)) (hi.map (eev σ)) (mx.map (eev σ)) κ=eE (isS (eev σ x)||(gK.rM (lo.map (eev σ))||(gK.rM (hi.map (eev σ))||gK.rM (mx.map (eev σ))))) (Ask (iR Tryz.prog t (hd (eev σ x)) ((lo.map (eev σ)).map hd) ((hi.map (eev σ)).map hd) ((mx.map (eev σ)).map hd)) fun v=>κ (mk v)) (cj (iR Tryz.prog t (eev σ x) (lo.map (eev σ)) (hi.map (eev σ)) (mx.map (eev σ))) κ):=by
  cases q:eev σ x
  case rw=>exact absurd ⟨_,_,_,_,_,q⟩ hx
  case fr=>exact absurd ⟨_,_,_,q⟩ hy
  all_goals rfl
 rw[h]at hs;cases hq:(isS (eev σ x)||(gK.rM (lo.map (eev σ))||(gK.rM (hi.map (eev σ))||gK.rM (mx.map (eev σ)))))with
 |true=>
  rw[hq]at hs;obtain⟨r,h1,h2⟩:=Ask.inv hs;exact HE hf (hf.ev x) h1 fun u hu=>hk _ u h2 hu.mk
 |false=>
  rw[hq]at hs;obtain⟨r,h1,h2⟩:=aP hs;exact mJ hf (hf.ev x) h1 fun u hu=>hk _ u h2 hu
theorem oH (hr:HR φ H n h0 h) {k m:Nat} {x:AV} {xv:Value} {l:List AV} (hx:VR φ x xv) (e:yN H k x m l):∃vs,bP h k xv=some (m,vs)/\VRs φ l vs:=by
 cases e with
 |old e=>exact xm hr hx.hd e
 |fr=>
  rcases hx.rO with⟨rfl,rfl,a,C,rfl,_⟩|⟨q,y,C,hq,rfl,hC,hsub⟩
  ·refine⟨[],?_,VRs.nil⟩;rcases a with _|⟨B,o,sp⟩
   ·rfl
   ·cases sp with
    |some _=>rfl
    |none=>
     (try simp only[bP])
     split
     ·simp[cG]
     ·rfl
  ·obtain⟨⟨⟨_,c,tt,fz,hc,hsz,hcr⟩,_⟩,_⟩:=hr.frz q hq;obtain⟨vs,g1,g2⟩:=hcr.sub hsub;exact⟨vs,by simp only[bP,hc,g1,Option.map_some],g2⟩
 | @rw b o m k' q l' _ hb hs=>
  rcases hx.gz with⟨rfl,hem⟩|⟨p,a,C,hp,rfl,ha,g3,g4,g7,g5,g6⟩
  ·obtain⟨_,rfl⟩:=bu hs;refine⟨[],?_,by simpa using VRs.nil⟩;rcases hem with rfl|⟨_,⟨B,o,sp⟩,rfl⟩
   ·rfl
   ·cases sp with
    |some _=>rfl
    |none=>
     (try simp only[bP])
     split
     ·simp[cG]
     ·rfl
  ·have key:∃c t fz,h.f p.B=some (.cells c t fz)/\CR φ c p.s l':=by
    rcases hb with hb|⟨z,hb⟩
    ·obtain⟨ob,_,h2,c,t,fz,rfl,h3,h4,h5⟩:=hr.of hb hp;exact⟨c,t,fz,h2,h5⟩
    ·obtain⟨ob,_,h2,c,t,fz,rfl,h3,h4,_,_,h5⟩:=hr.of hb hp;exact⟨c,t,fz,h2,h5⟩
   obtain⟨c,t,fz,h2,h5⟩:=key;by_cases hm:m=0
   ·subst hm;obtain⟨_,rfl⟩:=bu hs;exact⟨[],by simp only[bP,h2,Nat.zero_mul,cG,Option.map_some],by simpa using VRs.nil⟩
   ·have:=ha hm;subst this;obtain⟨vs,g1,g2⟩:=h5.sub hs;exact⟨vs,by simp only[bP,h2,g1,Option.map_some],g2⟩
variable {call:CP} {κ:PK} {K:KH}
section
variable {t u e:TypeId} {ud:TypeDesc} {k by' m sn:Nat} {z:Value} {new old:List AV} {nv ov:List Value} {xv:Value}
theorem tR {G:AH} {zz:Bool} (hk:ck φ h0 κ K) (h1:κ (.rw n 0 (sn+m) k 0) (G.set (some (.cells (old++new) zz)) aa n) (n+1)) (hG:HR φ G n h0 h) (ho:VRs φ old ov) (hn:VRs φ new nv) (hol:ov.length=sn*k) (hnl:new.length=m*k) (hz:z.cells.size=k):ES e z (sn+m) ov nv h (rF K):=by
 intro cap hcap;refine⟨_,Sub.refl _,?_⟩;have hcpl:∀q,(cI z.cells.toList q).length=q*k:=fun q=>by rw[lu];simp[hz]
 have hlen:(ov++(nv++cI z.cells.toList (cap-(sn+m)))).length=cap*k:=by
  simp only[List.length_append,hol,<-hn.length,hnl,hcpl];rw[<-Nat.add_mul,<-Nat.add_mul];congr 1;omega
 have hor:OR (ez φ n ⟨h.n,0,cap*k⟩) ⟨h.n,0,cap*k⟩ (.cells (old++new) zz) (.cells (ov++(nv++cI z.cells.toList (cap-(sn+m)))).toArray e (0,0)):=by
  refine⟨_,e,_,rfl,?_,by simp only[List.size_toArray,hlen];omega,iO _ _,fun _=>rfl,?_⟩
  ·simp only[List.length_append,hnl,ho.length,hol];rw[<-Nat.add_mul];exact Nat.mul_le_mul_right k hcap
  ·rw[<-List.append_assoc];exact CR.mono (hG.ple _) (CR.of (ho.append hn) _)
 exact hk _ _ _ _ (.slice (some ⟨h.n,0,none⟩) (sn+m) cap) _ (hG.ple _) (hG.new hor aa) (.rw (p:=⟨h.n,0,cap*k⟩) (bw _ _ _) (fun _=>by simp) (Nat.le_refl _) hcap (by simp)) h1
theorem A3 {b C a:Nat} {p:Pl} {l:List AV} {z':Bool} (hr:HR φ H n h0 h) (hk:ck φ h0 κ K) (h1:κ (.rw n 0 (sn+m) k 0) ((H.set none aa b).set (some (.cells (old++new) z')) aa n) (n+1))
 (hu:Tryz.prog.underlying t=some (.slice e)) (hud:Tryz.prog.underlying u=some ud) (hni:∀q,ud≠ .int q) (hsz:aB Tryz.prog e=some k) (hbz:jS Tryz.prog e=some by') (hzz:cL Tryz.prog e=some z) (c1:z.cells.size=k) (c2:0<by')
 (hsrc:bP h k xv=some (m,nv)) (hn:VRs φ new nv) (hnl:new.length=m*k) (hone:new.all nJ=true) (big:(sn+m)*by'<=140737488355328)
 (hb:H.get b=some (.cells l z')) (hp:φ b=some p) (ha:p.s<=a) (hC:sn<=C) (hT:a+C*k<=p.s+p.T) (hold:(sn=0/\old=[])∨bp l (a-p.s) (sn*k)=some old):iy Tryz.prog t u (.slice (some ⟨p.B,a,none⟩) sn C) xv h (rF K):=by
 obtain⟨ob,hB,hf,cc,ty,fz,rfl,q1,q2,q3,q4,q5⟩:=hr.of hb hp
 obtain⟨ov,hov,ho,hkeep,hle⟩:∃ov,cG cc a (sn*k)=some ov/\VRs φ old ov/\CR φ cc a old/\old.length=sn*k:=by
  rcases hold with⟨rfl,rfl⟩|hold
  ·exact⟨[],by rw[Nat.zero_mul];rfl,.nil,fun i a h=>by simp at h,by simp⟩
  ·obtain⟨vs,g1,g2⟩:=q5.sub hold;obtain⟨g3,g4⟩:=bu hold;have e1:p.s+(a-p.s)=a:=by omega
   rw[e1]at g1;refine⟨vs,g1,g2,?_,by rw[g4];simp;omega⟩;have:=CR.drop (o:=a-p.s) (m:=sn*k) q5;rw[e1,<-g4]at this;exact this
 have hol:ov.length=sn*k:=by rw[<-ho.length];exact hle
 refine⟨e,ud,k,by',z,m,nv,hu,hud,hni,hsz,hbz,hzz,c1,c2,hsrc,fun hstay=>?_,fun _=>⟨big,ov,by simp only[bP,hf,hov,Option.map_some],tR hk h1 (hr.kill aa b) ho hn hol hnl c1⟩⟩
 (try simp only[sV,hf])
 have hCk:(sn+m)*k<=C*k:=Nat.mul_le_mul_right k hstay;have hadd:(sn+m)*k=sn*k+m*k:=Nat.add_mul _ _ _;have hnvl:=hn.length;refine⟨lM hn hone,by omega,q3.sub (by omega),_,Sub.refl _,?_⟩
 have hor:OR (ez φ n ⟨p.B,a,C*k⟩) ⟨p.B,a,C*k⟩ (.cells (old++new) z') (.cells (dL cc (a+sn*k) nv) ty fz):=by
  refine⟨_,ty,fz,rfl,by simp only[List.length_append];omega,by rw[eI];simp only;omega,q3.sub (by simp only;omega),q4,CR.mono (hr.ple _) (CR.append ?_ ?_)⟩
  ·exact CR.kept hkeep (by simp only;omega)
  ·simp only;rw[hle];exact CR.wrote hn (by omega)
 exact hk _ _ _ _ (.slice (some ⟨p.B,a,none⟩) (sn+m) C) _ (hr.ple _) (hr.rename (q:=⟨p.B,a,C*k⟩) hb hp rfl hor aa aa) (.rw (p:=⟨p.B,a,C*k⟩) (bw _ _ _) (fun _=>by simp) (Nat.le_refl _) hstay (by simp)) h1
theorem A4 {G:AH} {zz:Bool} (hr:HR φ G n h0 h) (hk:ck φ h0 κ K) (h1:κ (.rw n 0 (0+m) k 0) (G.set (some (.cells ([]++new) zz)) aa n) (n+1))
 (hu:Tryz.prog.underlying t=some (.slice e)) (hud:Tryz.prog.underlying u=some ud) (hni:∀q,ud≠ .int q) (hsz:aB Tryz.prog e=some k) (hbz:jS Tryz.prog e=some by') (hzz:cL Tryz.prog e=some z) (c1:z.cells.size=k) (c2:0<by')
 (hsrc:bP h k xv=some (m,nv)) (hn:VRs φ new nv) (hnl:new.length=m*k) (big:(0+m)*by'<=140737488355328):iy Tryz.prog t u (.slice none 0 0) xv h (rF K):=by
 refine⟨e,ud,k,by',z,m,nv,hu,hud,hni,hsz,hbz,hzz,c1,c2,hsrc,fun hstay=>?_,fun _=>⟨big,[],rfl,tR hk h1 hr .nil hn (by simp) hnl c1⟩⟩;have hm:m=0:=by omega
 subst hm;have hnew:new=[]:=List.eq_nil_of_length_eq_zero (by omega);subst hnew;refine⟨_,Sub.refl _,hk φ _ _ _ (.slice none 0 0) h (PLe.refl _) ?_ .rwn h1⟩
 have hno:φ n=none:=by
  cases hq:φ n with
  |none=>rfl
  |some p=>exact absurd (hr.dom n p hq).1 (Nat.lt_irrefl _)
 refine⟨fun b p hb=>⟨Nat.lt_succ_of_lt (hr.dom b p hb).1,(hr.dom b p hb).2⟩,fun b o hb=>?_,fun x y q q' px py hx hy hwx hwy hpx hpy ee=>?_,hr.base,hr.size,fun z hz=>⟨(hr.frz z hz).1,fun y oy py hy hwy hpy=>?_⟩,hr.b9 (Nat.le_refl _) (fun x Q hx=>?_) (fun _ h=>h) (fun _ h=> .inl h) (fun _ _ _ _ _=>rfl) fun b' o1 p' e1 e2 e3=>?_⟩;rotate_left 3
 ·rcases PM.aj aa _ n x _ hx with⟨_,h2⟩|⟨_,h2⟩
  ·injection h2 with h2;cases h2
  ·exact⟨h2,rfl⟩
 ·rcases PM.aj aa _ n b' o1 e1 with⟨rfl,_⟩|⟨_,h2⟩
  ·rw[hno]at e3;cases e3
  ·exact .inl ⟨b',o1,p',h2,e2,e3,rfl⟩
 rotate_left 2
 ·rcases PM.aj aa _ n y oy hy with⟨rfl,_⟩|⟨_,h2⟩
  ·rw[hno]at hpy;cases hpy
  ·exact(hr.frz z hz).2 y oy py h2 hwy hpy
 ·rcases PM.aj aa _ n b o hb with⟨rfl,h2⟩|⟨_,h2⟩
  ·injection h2 with h2;subst h2;exact .inl ⟨hno,rfl⟩
  ·exact hr.live b o h2
 ·have old:∀z r pz,(G.set (some (.cells ([]++ []) zz)) aa n).get z=some r->φ z=some pz->G.get z=some r:=fun z r pz hz hpz=>by
   rcases PM.aj aa _ n z r hz with⟨rfl,_⟩|⟨_,h2⟩
   ·rw[hno]at hpz;cases hpz
   ·exact h2
  exact hr.inj x y q q' px py (old x q px hx hpx) (old y q' py hy hpy) hwx hwy hpx hpy ee
end
theorem A5 (hr:HR φ H n h0 h) {t:TypeId} {s x:AV} {sv xv:Value} {κ:PK} {K:KH} (hs:VR φ s sv) (hx:VR φ x xv) (ha:E0 t s x H n κ) (hk:ck φ h0 κ K):nz Tryz.prog t sv xv h K:=by
 cases ha with
 |mk k m dn b o c kk bx ox kx qx l lx new l' z hs' hx' hq ty hbx hsx hb hone hset k'=>
  obtain⟨el,hu,hsz⟩:=ty;have hd1:=hs.hd;rw[hs']at hd1;rw[hx']at hx;obtain⟨p,C,hp,rfl,_,_⟩:=hd1.eo;obtain⟨ob,hB,hf,cc,ty,fz,rfl,h1,h2,h3,h4,h5⟩:=hr.of hb hp;obtain⟨s1,s2⟩:=bu hsx
  have key:Jj xv=some m/\∃vs,km h k (min m dn) xv=some vs/\VRs φ (new.take (min m dn*k)) vs:=by
   rcases hx.gz with⟨rfl,hem⟩|⟨q,a,D,hqp,rfl,ha,g3,g4,g7,g5,g6⟩
   ·rw[hem.nil hq];exact⟨rfl,[],rfl,by simpa using VRs.nil⟩
   ·refine⟨rfl,?_⟩
    have kc:∃c t fz,h.f q.B=some (.cells c t fz)/\CR φ c q.s lx:=by
     rcases hbx with hb|⟨z,hb⟩
     ·obtain⟨ob,_,h2,c,t,fz,rfl,h3,h4,h5⟩:=hr.of hb hqp;exact⟨c,t,fz,h2,h5⟩
     ·obtain⟨ob,_,h2,c,t,fz,rfl,h3,h4,_,_,h5⟩:=hr.of hb hqp;exact⟨c,t,fz,h2,h5⟩
    obtain⟨c2,t2,fz2,e1,e2⟩:=kc;by_cases hz:min m dn=0
    ·rw[hz];exact⟨[],by simp only[km,e1,Nat.zero_mul,cG],by simpa using VRs.nil⟩
    ·have hm:m≠0:=by omega
     have:=ha hm;subst this;have hle:min m dn*k<=m*k:=Nat.mul_le_mul_right _ (by omega)
     have hsub:bp lx ox (min m dn*k)=some (new.take (min m dn*k)):=by
      unfold bp;rw[Nat.ble_eq_true_of_le (by omega),s2,List.take_take,Nat.min_eq_left hle]
     obtain⟨vs,g1,g2⟩:=e2.sub hsub;exact⟨vs,by simp only[km,e1,g1],g2⟩
  obtain⟨hlx,vs,g1,g2⟩:=key;obtain⟨q1,q2,q3⟩:=gZ _ _ _ _ hset;have hgl:=g2.length
  (try simp only[nz,hu,hlx,hsz,g1,hf])
  refine⟨lM g2 hone,by omega,h3.sub (by omega),?_⟩;refine hk _ _ _ _ _ _ (PLe.refl _) (hr.put hb hp ?_ aa) (.si _ _) k';exact⟨_,ty,fz,rfl,by omega,by rw[eI];omega,h3,h4,h5.set hset g2 (by omega)⟩
theorem Dx (hr:HR φ H n h0 h) {t u:TypeId} {s x:AV} {sv xv:Value} (hs:VR φ s sv) (hx:VR φ x xv) (ha:bC t u s x H n κ) (hk:ck φ h0 κ K):iy Tryz.prog t u sv xv h (rF K):=by
 cases ha with
 |grow k by' m sn new old G zz ty src hnew hone row big h1=>
  obtain⟨e,ud,z,hu,hud,hni,hsz,hbz,hzz,c1,c2,c3⟩:=ty.h;obtain⟨nv,hn1,hn2⟩:=oH hr hx src;cases row with
  |nsl=>
   rw[hs.cP];exact A4 hr hk h1 hu hud hni hsz hbz hzz c1 c2 hn1 hn2 hnew big
  | @rw b o _ l _ _ hb hsub=>
   rcases hs.gz with⟨rfl,hem⟩|⟨p,a,C,hp,rfl,ha,g3,g4,g7,g5,g6⟩
   ·have:=hem.nil (by decide);subst this;obtain⟨_,rfl⟩:=bu hsub;rw[Nat.zero_mul,List.take_zero]at h1;exact A4 (hr.kill aa b) hk h1 hu hud hni hsz hbz hzz c1 c2 hn1 hn2 hnew big
   ·refine A3 hr hk h1 hu hud hni hsz hbz hzz c1 c2 hn1 hn2 hnew hone big hb hp g3 g4 (g5 (by decide)) ?_;by_cases hsn:sn=0
    ·subst hsn;obtain⟨_,rfl⟩:=bu hsub;exact .inl ⟨rfl,by simp⟩
    ·have:=ha hsn;subst this;exact .inr (by rw[Nat.add_sub_cancel_left];exact hsub)
  | @sl b o _ c l _ _ hb hsub hnc hc=>
   obtain⟨p,C,hp,rfl,hC0,_⟩:=hs.eo;have:=hC0 rfl
   subst this;obtain⟨ob,_,_,cc,ty,fz,rfl,q1,_⟩:=hr.of hb hp;exact A3 hr hk h1 hu hud hni hsz hbz hzz c1 c2 hn1 hn2 hnew hone big hb hp (Nat.le_add_right _ _) hnc (by omega) (.inr (by rw[Nat.add_sub_cancel_left];exact hsub))
 |exact k by' m b o sn new old hse ty src hnew hone hm row big h1=>
  obtain⟨e,ud,z,hu,hud,hni,hsz,hbz,hzz,c1,c2,c3⟩:=ty.h;obtain⟨nv,hn1,hn2⟩:=oH hr hx src;obtain⟨ov,ho1,ho2⟩:=oH hr hs row;subst hse
  have hol:ov.length=sn*k:=by
   cases row with
   |rw _ hsub=>obtain⟨g1,g2⟩:=bu hsub;rw[<-ho2.length,g2];simp;omega
   |old e=>cases e
  rcases hs.gz with⟨rfl,hem⟩|⟨p,a,C,hp,rfl,ha,g3,g4,g7,g5,g6⟩
  ·have:=hem.nil (by decide);subst this;exact⟨e,ud,k,by',z,m,nv,hu,hud,hni,hsz,hbz,hzz,c1,c2,hn1,fun hstay=>by omega,fun _=>⟨big,ov,ho1,tR hk h1 hr ho2 hn2 hol hnew c1⟩⟩
  ·have:=g6 rfl
   exact⟨e,ud,k,by',z,m,nv,hu,hud,hni,hsz,hbz,hzz,c1,c2,hn1,fun hstay=>by omega,fun _=>⟨big,ov,ho1,tR hk h1 hr ho2 hn2 hol hnew c1⟩⟩
 |b9 k by' b o sn q l zz hse hq ty src hb h1=>
  obtain⟨e,ud,z,hu,hud,hni,hsz,hbz,hzz,c1,c2,c3⟩:=ty.h;obtain⟨nv,hn1,hn2⟩:=oH hr hx src;have hnv:=hn2.aM;subst hnv;subst hse;rcases hs.gz with⟨rfl,hem⟩|⟨p,a,C,hp,rfl,ha,g3,g4,g7,g5,g6⟩
  ·have:=hem.nil hq;subst this;exact⟨e,ud,k,by',z,0,[],hu,hud,hni,hsz,hbz,hzz,c1,c2,hn1,fun _=>⟨h,Sub.refl _,hk φ _ _ _ (.slice none 0 0) h (PLe.refl _) hr hs h1⟩,fun hgt=>by omega⟩
  ·obtain⟨ob,_,h2,cc,tt,fz,rfl,q1,q2,q3,_,_⟩:=hr.of hb hp;refine⟨e,ud,k,by',z,0,[],hu,hud,hni,hsz,hbz,hzz,c1,c2,hn1,fun _=>?_,fun hgt=>by omega⟩;unfold sV;dsimp only;rw[h2];refine⟨rfl,by simp only[List.length_nil];omega,qk.sub q3 (by simp only[List.length_nil];omega),h,⟨rfl,fun x o e=>?_⟩,hk φ _ _ _ _ h (PLe.refl _) hr hs h1⟩;by_cases hx:x=p.B
   ·subst hx;rw[bO];rw[h2]at e;exact e
   ·rw[aR _ _ _ _ hx];exact e
theorem b8 {o:Op} (ho:bM o=false) (h1:de Tryz.prog o ρ h fun v=>K v h):bE Tryz.prog o ρ h K:=by
 unfold bE;rw[ho];exact h1
theorem fV {o:Op} (ho:bM o=true) (h1:nc Tryz.prog o ρ h K):bE Tryz.prog o ρ h K:=by
 unfold bE;rw[ho];exact h1
theorem u5 {l:List Operand} {s x:AV} (hf:FR φ σ ρ) (e:l.map (eev σ)=[s,x]):∃v u,l.map ρ.ev=[v,u]/\VR φ s v/\VR φ x u:=by
 have hm:=VRs.map hf.ev l;rw[e]at hm;obtain⟨v1,us,h1,h2,h3⟩:=hm.cons_inv;obtain⟨v2,ws,h4,h5,h6⟩:=h3.cons_inv;rw[h4,h6.aM]at h1;exact⟨v1,v2,h1,h2,h5⟩
theorem P8 {l:List Operand} {s x y:AV} (hf:FR φ σ ρ) (e:l.map (eev σ)=[s,x,y]):∃v u w,l.map ρ.ev=[v,u,w]/\VR φ s v/\VR φ x u/\VR φ y w:=by
 have hm:=VRs.map hf.ev l;rw[e]at hm;obtain⟨v1,us,h1,h2,h3⟩:=hm.cons_inv;obtain⟨v2,ws,h4,h5,h6⟩:=h3.cons_inv;obtain⟨v3,xs,h7,h8,h9⟩:=h6.cons_inv;rw[h4,h7,h9.aM]at h1;exact⟨v1,v2,v3,h1,h2,h5,h8⟩
theorem P9 {l:List Operand} {s:AV} (hf:FR φ σ ρ) (e:l.map (eev σ)=[s]):∃v,l.map ρ.ev=[v]/\VR φ s v:=by
 have hm:=VRs.map hf.ev l;rw[e]at hm;obtain⟨v1,us,h1,h2,h3⟩:=hm.cons_inv;rw[h3.aM]at h1;exact⟨v1,h1,h2⟩
theorem te (hcall:nS call) (hr:HR φ H n h0 h) (hf:FR φ σ ρ) {c:Call} (hs:s9 c call σ H n κ) (hk:ck φ h0 κ K):bE Tryz.prog (.call c) ρ h K:=by
 have hm:=VRs.map hf.ev c.args.toList;have fin:∀r u,κ r H n->VR φ r u->K u h:=fun r u h1 hu=>hk φ r H n u h (PLe.refl _) hr hu h1
 obtain⟨callee,args,ats⟩:=c;unfold s9 at hs;dsimp only at hs hm;split at hs
 ·rename_i f;have hfv:=hf.ev f;split at hs
  ·rename_i g a cs q;rw[q]at hfv;obtain⟨a',c',hv,h1,h2⟩:=hfv.mF;refine fV rfl ?_
   show w9 Tryz.prog (ρ.ev f) (args.map ρ.ev) h K;rw[hv];show dj Tryz.prog g (a'++args.map ρ.ev++c') h K;refine hcall g _ _ _ _ hs φ h0 h _ K hr ?_ hk;rw[Array.toList_append,Array.toList_append,Array.toList_map];exact(h1.append hm).append h2
  ·exact hs.elim
 ·refine b8 rfl ?_
  show dk Tryz.prog .len ats.toList (args.toList.map ρ.ev) h fun v=>K v h
  split at hs
  ·rename_i t x e1 e2;obtain⟨v,e3,h1⟩:=P9 hf e2;rw[e1,e3];exact u4 hr h1 hs fun r u=>fin r u
  ·exact hs.elim
 ·refine b8 rfl ?_
  show dk Tryz.prog .min ats.toList (args.toList.map ρ.ev) h fun v=>K v h
  split at hs
  ·rename_i x y e2;obtain⟨v,u,e3,h1,h2⟩:=u5 hf e2;rw[e3];exact ib h1 h2 hs fun r u=>fin r u
  ·rename_i x y z e2;obtain⟨v,u,w,e3,h1,h2,h3⟩:=P8 hf e2;rw[e3];exact ib h1 h2 hs fun r u hr hu=>ib hu h3 hr fun r u=>fin r u
  ·exact hs.elim
 ·refine b8 rfl ?_
  show dk Tryz.prog .max ats.toList (args.toList.map ρ.ev) h fun v=>K v h
  split at hs
  ·rename_i x y e2;obtain⟨v,u,e3,h1,h2⟩:=u5 hf e2;rw[e3];exact ib h1 h2 hs fun r u=>fin r u
  ·rename_i x y z e2;obtain⟨v,u,w,e3,h1,h2,h3⟩:=P8 hf e2;rw[e3];exact ib h1 h2 hs fun r u hr hu=>ib hu h3 hr fun r u=>fin r u
  ·exact hs.elim
 ·refine fV rfl ?_
  show iz Tryz.prog .append ats.toList (args.toList.map ρ.ev) h K;split at hs
  ·rename_i t u s x e1 e2;obtain⟨v,w,e3,h1,h2⟩:=u5 hf e2;rw[e1,e3];unfold EZ at hs;cases hq:(isR s||isR x)with
   |true=>rw[hq]at hs;exact Dx hr h1 h2 hs hk
   |false=>rw[hq]at hs;exact xx hk hs (fun _ _ _ e=>lz hr h1 h2 e) (fun _ _ _ e=>lz hr h1.hd h2.hd e)
  ·exact hs.elim
 ·refine fV rfl ?_
  show iz Tryz.prog .copy ats.toList (args.toList.map ρ.ev) h K;split at hs
  ·rename_i t u s x e1 e2;obtain⟨v,w,e3,h1,h2⟩:=u5 hf e2;rw[e1,e3];unfold PY at hs;cases hq:isR x with
   |true=>rw[hq]at hs;exact A5 hr h1 h2 hs hk
   |false=>rw[hq]at hs;exact xx hk hs (fun _ _ _ e=>nR hr h1 h2 e) (fun _ _ _ e=>nR hr h1.hd h2.hd e)
  ·exact hs.elim
 ·refine fV rfl ?_
  show iz Tryz.prog .delete ats.toList (args.toList.map ρ.ev) h K;split at hs
  ·rename_i t u s x e1 e2;obtain⟨v,w,e3,h1,h2⟩:=u5 hf e2;rw[e1,e3];exact xx hk hs (fun _ _ _ e=>pM hr h1 h2 e) (fun _ _ _ e=>pM hr h1 h2.hdK e)
  ·exact hs.elim
 ·exact hs.elim
theorem nU {t:TypeId} {k:IntKind} (h:oG Tryz.prog t=some k):Tryz.prog.underlying t=some (.int k):=by
 unfold oG at h;split at h
 ·rename_i e;injection h with h;subst h;exact e
 ·cases h
theorem MR.at {φ:Ph}:∀{es:List (AV×AV)} {ms:List MapEntry},MR φ es ms->∀{i:Nat} {m:MapEntry},ms[i]?=some m->∃e,es[i]?=some e/\VR φ e.1 m.key/\VR φ e.2 m.val
 | [],ms,h,i,m,e=>by rw[show ms=[] from h]at e;simp at e
 |x::es,ms,⟨m',us,h1,h2,h3,h4⟩,0,m,e=>by
  subst h1;simp only[List.getElem?_cons_zero,Option.some.injEq]at e;subst e;exact⟨x,rfl,h2,h3⟩
 |x::es,ms,⟨m',us,h1,h2,h3,h4⟩,i+1,m,e=>by
  subst h1;simp only[List.getElem?_cons_succ]at e⊢;exact MR.at h4 e
theorem xz (hr:HR φ H n h0 h) {a:AV} {v:Value} {it b m:Nat} {seen:List Nat} {es:List (AV×AV)} (ha:a= .ptr it 0) (hv:VR φ a v) (hi:H.get it=some (.iter b m seen)) (hb:H.get b=some (.map es)) (hm:es.length=m):
 ∃p q ms,p.s+0=0/\φ it=some p/\φ b=some q/\v= .pointer (some ⟨p.B,p.s+0,none⟩)/\h.f p.B=some (.mapIter (some q.B) m seen.toArray m)/\h.f q.B=some (.map ms m)/\MR φ es ms.toList/\uN ms.toList m:=by
 subst ha hm;obtain⟨p,hp,rfl⟩:=hv.ct;obtain⟨ob,_,h1,hs0,q,hq,rfl⟩:=hr.of hi hp;obtain⟨ob,_,h2,ms,cl,rfl,h3,h4⟩:=hr.of hb hq;have:cl=es.length:=h4.1.trans h3.length.symm;subst this;exact⟨p,q,ms,by omega,hp,hq,rfl,h1,h2,h3,h4⟩
theorem u6 (hr:HR φ H n h0 h) {a:AV} {v:Value} {it b m:Nat} {seen bs:List Nat} {es:List (AV×AV)} (ha:a= .ptr it 0) (hv:VR φ a v) (hi:H.get it=some (.iter b m seen)) (hb:H.get b=some (.mp es bs m)):
 ∃p q ms,p.s+0=0/\φ it=some p/\φ b=some q/\v= .pointer (some ⟨p.B,p.s+0,none⟩)/\h.f p.B=some (.mapIter (some q.B) m seen.toArray m)/\h.f q.B=some (.map ms m)/\MR φ es ms.toList/\(ms.toList.map fun x=>x.born)=bs:=by
 subst ha;obtain⟨p,hp,rfl⟩:=hv.ct;obtain⟨ob,_,h1,hs0,q,hq,rfl⟩:=hr.of hi hp;obtain⟨ob,_,h2,ms,rfl,h3,h4⟩:=hr.of hb hq;exact⟨p,q,ms,by omega,hp,hq,rfl,h1,h2,h3,h4⟩
theorem Dy (hr:HR φ H n h0 h) {a:AV} {v:Value} {κ:PK} {K:KH} {it b m:Nat} {seen bs:List Nat} {es:List (AV×AV)} (hv:VR φ a v) (ha:a= .ptr it 0) (hi:H.get it=some (.iter b m seen)) (hb:H.get b=some (.mp es bs m)) (hm:∀x∈bs,x<m)
 (tH:(∀x∈bs,x∈seen)->κ (.tup [.bool false]) H n)
 (step:∀(i:Nat) e x,es[i]?=some e->bs[i]?=some x->x∉seen->κ (.tup [.bool true,Go.Proofs.YtflehenfikoniaaGreat.mk e.1,e.2]) (H.set (some (.iter b m (seen++ [x]))) aa it) n) (hk:ck φ h0 κ K):sX v false h K:=by
 obtain⟨p,q,ms,ps,hp,hq,rfl,h1,h2,h3,h4⟩:=u6 hr ha hv hi hb;subst h4;rw[ps]
 (try simp only[sX,h1,h2])
 refine⟨fun e he=>hm _ (List.mem_map_of_mem he),Nat.le_refl _,fun h0=>?_,fun e he=>?_⟩
 ·refine hk φ _ H n _ h (PLe.refl _) hr (.tup (.cons (.bool _) .nil)) (tH fun x hx=>?_);obtain⟨e,he,rfl⟩:=List.mem_map.1 hx;have hmem:e∉pe ms.toList seen.toArray:=by rw[h0];simp
  simp only[pe,List.mem_filter,he,true_and]at hmem;simpa using hmem
 ·simp only[pe,List.mem_filter]at he;obtain⟨he1,he2⟩:=he;obtain⟨i,hi'⟩:=List.getElem?_of_mem he1;obtain⟨x,hx,hx1,hx2⟩:=h3.at hi';have hns:e.born∉seen:=by simpa using he2
  have ho:OR φ p (.iter b m (seen++ [e.born])) (.mapIter (some q.B) m (seen.toArray.push e.born) m):=⟨by omega,q,hq,by simp⟩;exact hk φ _ _ n _ _ (PLe.refl _) (hr.put hi hp ho aa) (.tup (.cons (.bool _) (.cons hx1.mk (.cons hx2 .nil)))) (step i x e.born hx (by rw[List.getElem?_map,hi'];rfl) hns)
theorem Dz (hr:HR φ H n h0 h) {a:AV} {v:Value} {κ:AV->Prop} {K:Value->Prop} {it b m i x:Nat} {seen bs:List Nat} {es:List (AV×AV)} {e:AV×AV} (hv:VR φ a v) (ha:a= .ptr it 0) (hi:H.get it=some (.iter b m (seen++ [x]))) (hb:H.get b=some (.mp es bs m)) (hnd:bs.Nodup) (hx:bs[i]?=some x) (he:es[i]?=some e)
 (k:κ (.tup [Go.Proofs.YtflehenfikoniaaGreat.mk e.1,e.2])) (hk:∀r u,κ r->VR φ r u->K u):my v h K:=by
 obtain⟨p,q,ms,ps,hp,hq,rfl,h1,h2,h3,h4⟩:=u6 hr ha hv hi hb;subst h4;rw[ps];rw[List.getElem?_map,Option.map_eq_some_iff]at hx;obtain⟨w,hw,rfl⟩:=hx;obtain⟨y,hy,hx1,hx2⟩:=h3.at hw;rw[he]at hy;injection hy with hy;subst hy;have hil:i<ms.toList.length:=(List.getElem?_eq_some_iff.1 hw).1;have hwe:ms.toList[i]=w:=(List.getElem?_eq_some_iff.1 hw).2;have hbk:(seen++ [w.born]).toArray.back?=some w.born:=by simp
 have hfd:ms.find? (·.born==w.born)=some w:=by
  rw[<-Array.find?_toList,List.find?_eq_some_iff_getElem];refine⟨by simp,i,hil,hwe,fun j hj=>?_⟩
  have hne:¬(ms.toList[j]'(by omega)).born=w.born:=fun q=>by
   have h5:(ms.toList.map fun x=>x.born)[j]'(by rw[List.length_map];omega)=(ms.toList.map fun x=>x.born)[i]'(by rw[List.length_map];omega):=by
    rw[List.getElem_map,List.getElem_map,hwe];exact q
   exact List.pairwise_iff_getElem.1 hnd j i (by rw[List.length_map];omega) (by rw[List.length_map];omega) hj h5
  simpa using hne
 (try simp only[my,h1,h2,hbk,hfd])
 exact⟨trivial,hk _ _ k (.tup (.cons hx1.mk (.cons hx2 .nil)))⟩
theorem HJ (hr:HR φ H n h0 h) {a:AV} {v:Value} {s:Bool} {κ:PK} {K:KH} (hv:VR φ a v) (hs:Nxt H a s fun v H=>κ v H n) (hk:ck φ h0 κ K):sX v s h K:=by
 rcases hs with⟨it,b,m,seen,es,rfl,ha,hi,hb,hm,tH,step⟩|⟨it,b,m,seen,es,bs,rfl,ha,hi,hb,hm,tH,step⟩
 case mp=>exact Dy hr hv ha hi hb hm tH step hk
 obtain⟨p,q,ms,ps,hp,hq,rfl,h1,h2,h3,h4⟩:=xz hr ha hv hi hb hm;rw[ps]
 (try simp only[sX,h1,h2])
 refine⟨fun e he=>?_,Nat.le_refl _,fun h0=>?_,fun e he=>?_⟩
 ·obtain⟨i,hi'⟩:=List.getElem?_of_mem he;have:=(List.getElem?_eq_some_iff.1 hi').1;rw[h4.2 i e hi',h4.1];omega
 ·refine hk φ _ H n _ h (PLe.refl _) hr (.tup (.cons (.bool _) .nil)) (tH fun i hlt=>?_);have hlt':i<ms.toList.length:=by rw[<-h4.1];exact hlt
  have hmem:ms.toList[i]∉pe ms.toList seen.toArray:=by rw[h0];simp
  have hb':=h4.2 i _ (List.getElem?_eq_getElem hlt');simp only[pe,List.mem_filter,List.getElem_mem,true_and,hb']at hmem;simpa using hmem
 ·simp only[pe,List.mem_filter]at he;obtain⟨he1,he2⟩:=he;obtain⟨i,hi'⟩:=List.getElem?_of_mem he1;have hbi:=h4.2 i e hi';obtain⟨x,hx,hx1,hx2⟩:=h3.at hi';have hns:i∉seen:=by rw[hbi]at he2;simpa using he2
  have ho:OR φ p (.iter b m (seen++ [i])) (.mapIter (some q.B) m (seen.toArray.push e.born) m):=⟨by omega,q,hq,by rw[hbi];simp⟩;exact hk φ _ _ n _ _ (PLe.refl _) (hr.put hi hp ho aa) (.tup (.cons (.bool _) (.cons hx1.mk (.cons hx2 .nil)))) (step i x hx hns)
theorem HK (hr:HR φ H n h0 h) {a:AV} {v:Value} {κ:AV->Prop} {K:Value->Prop} (hv:VR φ a v) (hs:Ent H a κ) (hk:∀r u,κ r->VR φ r u->K u):my v h K:=by
 rcases hs with⟨it,b,m,i,seen,es,e,ha,hi,hb,hm,he,k⟩|⟨it,b,m,i,x,seen,es,bs,e,ha,hi,hb,hnd,hx,he,k⟩
 case mp=>exact Dz hr hv ha hi hb hnd hx he k hk
 obtain⟨p,q,ms,ps,hp,hq,rfl,h1,h2,h3,h4⟩:=xz hr ha hv hi hb hm;rw[ps];have hil:i<ms.toList.length:=by rw[<-h4.1,<-hm];exact(List.getElem?_eq_some_iff.1 he).1
 obtain⟨x,hx,hx1,hx2⟩:=h3.at (List.getElem?_eq_getElem hil);have hbi:=h4.2 i _ (List.getElem?_eq_getElem hil);rw[he]at hx;injection hx with hx;subst hx;have hbk:(seen++ [i]).toArray.back?=some i:=by simp
 have hfd:ms.find? (·.born==i)=some ms.toList[i]:=by
  rw[<-Array.find?_toList,List.find?_eq_some_iff_getElem];refine⟨by simpa using hbi,i,hil,rfl,fun j hj=>?_⟩;have:=h4.2 j _ (List.getElem?_eq_getElem (by omega));have hne:¬(ms.toList[j]'(by omega)).born=i:=by rw[this];omega
  simpa using hne
 (try simp only[my,h1,h2,hbk,hfd])
 exact⟨trivial,hk _ _ k (.tup (.cons hx1.mk (.cons hx2 .nil)))⟩
theorem A6 (hcall:nS call) (hr:HR φ H n h0 h) (hf:FR φ σ ρ) {o:Op} (hs:uX o call σ H n κ) (hk:ck φ h0 κ K):bE Tryz.prog o ρ h K:=by
 have fin:∀r u,κ r H n->VR φ r u->K u h:=fun r u h1 hu=>hk φ r H n u h (PLe.refl _) hr hu h1
 unfold uX at hs;split at hs
 ·exact b8 rfl (fin _ _ hs (hf.ev _))
 ·exact b8 rfl (fin _ _ hs (hf.ev _))
 ·rename_i c a b;obtain⟨q,h1,h2,h3⟩:=xy (hf.ev c) hs;refine b8 rfl ?_
  (try simp only[de,h1])
  cases q with
  |true=>exact fin _ _ (h2 rfl) (hf.ev _)
  |false=>exact fin _ _ (h3 rfl) (hf.ev _)
 ·exact b8 rfl (nT hr (hf.ev _) hs fun r u=>fin r u)
 ·exact fV rfl (qD hr (hf.ev _) (hf.ev _) hs hk)
 ·exact b8 rfl (u0 hr (hf.ev _) (hf.ev _) hs fun r u=>fin r u)
 ·exact b8 rfl (xt (hf.ev _) hs fun r u=>fin r u)
 ·exact b8 rfl (lO (hf.ev _) (hf.ev _) hs fun r u=>fin r u)
 ·exact b8 rfl (qC (hf.ev _) (hf.ev _) hs fun r u=>fin r u)
 ·rename_i t x lo hi mx;refine b8 rfl ?_
  show da Tryz.prog t (ρ.ev x) (lo.map ρ.ev) (hi.map ρ.ev) (mx.map ρ.ev) fun v=>K v h
  exact qF (κ:=fun v=>κ v H n) hf hs fun r u=>fin r u
 ·exact fV rfl (xx hk hs (fun _ _ _ e=>nQ hr (hf.ev _) (hf.ev _) e) (fun _ _ _ e=>nQ hr (hf.ev _).hd (hf.ev _).hd e))
 ·rename_i s d x;refine fV rfl ?_
  show gX Tryz.prog s d (ρ.ev x) h K;unfold PZ at hs;split at hs
  ·rename_i a q;have hx:=hf.ev x;rw[q]at hx;rw[hx.fy];split at hs
   ·rename_i k1 k2 e1 e2
    (try simp only[gX,nU e1,nU e2])
    exact fin _ _ hs (.si _ _)
   ·exact hs.elim
  ·have hx:=hf.ev x;cases hs with
   |mk b o m k' q l' new s' hx' hq ty hb hl hsb hκ=>
    obtain⟨el,t1,t2,t3⟩:=ty;rw[hx']at hx;rcases hx.gz with⟨rfl,hem⟩|⟨p,y,C,hp,hv,ha,g3,g4,g7,g5,g6⟩
    ·rw[hem.nil hq];obtain⟨_,rfl⟩:=bu hl;have hsb:kq []=some s':=by simpa using hsb
     injection hsb with hsb;subst hsb
     (try simp only[gX,t1,t3])
     exact⟨t2,fin _ _ hκ (.ss (s:=[]) (fun _ hx=>by cases hx))⟩
    ·rw[hv]
     have key:∃c t fz,h.f p.B=some (.cells c t fz)/\CR φ c p.s l':=by
      rcases hb with hb|⟨z,hb⟩
      ·obtain⟨ob,_,h2,c,t,fz,rfl,h3,h4,h5⟩:=hr.of hb hp;exact⟨c,t,fz,h2,h5⟩
      ·obtain⟨ob,_,h2,c,t,fz,rfl,h3,h4,_,_,h5⟩:=hr.of hb hp;exact⟨c,t,fz,h2,h5⟩
     obtain⟨c,t,fz,h2,h5⟩:=key
     obtain⟨vs,k1,k2⟩:∃vs,cG c y m=some vs/\VRs φ new vs:=by
      by_cases hm:m=0
      ·subst hm;obtain⟨_,rfl⟩:=bu hl;exact⟨[],rfl,by simpa using VRs.nil⟩
      ·have:=ha hm;subst this;exact h5.sub hl
     obtain⟨k3,k4⟩:=k8 new s' vs k2 hsb;simp only[gX,t1,t3,h2,k1,Option.bind_some,k3];exact⟨t2,fin _ _ hκ (.ss k4)⟩
  ·exact xx hk hs (fun _ _ _ e=>nP hr (hf.ev x) e) (fun _ _ _ e=>nP hr (hf.ev x).hd e)
 ·exact te hcall hr hf hs hk
 ·rename_i t m k ok;refine b8 rfl ?_
  show fo Tryz.prog t (ρ.ev m) (ρ.ev k) ok h fun v=>K v h
  cases q:Hw (eev σ k)with
  |true=>
   rw[q]at hs;obtain⟨r,h1,h2⟩:=Ask.inv hs;exact gB hr (hf.ev _) (hf.ev _).hdK h1 fun u hu=>fin r u h2 hu
  |false=>
   rw[q]at hs;obtain⟨r,h1,h2⟩:=aP hs;exact gB hr (hf.ev _) (hf.ev _) h1 fun u hu=>fin r u h2 hu
 ·exact fV rfl (HJ hr (hf.ev _) hs hk)
 ·exact b8 rfl (HK hr (hf.ev _) hs fun r u=>fin r u)
 ·exact fV rfl (xx hk hs (fun _ _ _ e=>jk hr (hf.ev _) (hf.ev _) (hf.ev _) e) (fun _ _ _ e=>jk hr (hf.ev _) (hf.ev _).hdK (hf.ev _) e))
 ·exact td hr hf hs hk
end
def Sg {α:Type} (m:(α->Prop)->Prop):Prop:=∀κ,m κ->∃v,κ v/\∀κ':α->Prop,κ' v->m κ'
section
variable {α β:Type}
theorem Sg.one (a:α):Sg (fun κ=>κ a):=fun _ h=>⟨a,h,fun _ h=>h⟩
theorem Sg.no:Sg (fun _:α->Prop=>False):=fun _ h=>h.elim
theorem Sg.opt (o:Option α):Sg (fun κ=>cj o κ):=fun κ h=>by
 obtain⟨a,rfl,k⟩:=aP h;exact⟨a,k,fun _ h=>h⟩
theorem Sg.ask (o:Option α):Sg (fun κ=>Ask o κ):=fun _ ⟨a,h,k⟩=>⟨a,k,fun _ k'=>⟨a,h,k'⟩⟩
theorem Sg.idx (i:Int) (len:Nat):Sg (fun κ=>Idx i len κ):=fun _ ⟨j,h,lt,k⟩=>⟨j,k,fun _ k'=>⟨j,h,lt,k'⟩⟩
theorem Sg.bind {m:(α->Prop)->Prop} {k:α->(β->Prop)->Prop} (hm:Sg m) (hk:∀a,Sg (k a)):Sg (fun κ=>m (fun a=>k a κ)):=fun κ h=>by
 obtain⟨a,h1,h2⟩:=hm _ h;obtain⟨v,h3,h4⟩:=hk a _ h1;exact⟨v,h3,fun κ' k'=>h2 _ (h4 _ k')⟩
theorem Sg.map {m:(α->Prop)->Prop} (f:α->β) (hm:Sg m):Sg (fun κ=>m (fun a=>κ (f a))):=hm.bind fun a=>Sg.one (f a)
theorem Sg.DA {k:α->(β->Prop)->Prop} (o:Option α) (hk:∀a,Sg (k a)):Sg (fun κ=>cj o fun a=>k a κ):=Sg.bind (Sg.opt o) hk
theorem Sg.bif {b:Bool} {m:(α->Prop)->Prop} (hm:Sg m):Sg (fun κ=>eE b (m κ) False):=by
 cases b
 ·exact Sg.no
 ·exact hm
theorem Sg.Np {b:Bool} {m m':(α->Prop)->Prop} (hm:Sg m) (hm':Sg m'):Sg (fun κ=>eE b (m κ) (m' κ)):=by
 cases b
 ·exact hm'
 ·exact hm
theorem Sg.Nq {b:Bool} {m:(α->Prop)->Prop} (hm:Sg m):Sg (fun κ=>eE b False (m κ)):=Sg.Np Sg.no hm
theorem Sg.and {p:Prop} {m:(α->Prop)->Prop} (hm:Sg m):Sg (fun κ=>p/\m κ):=fun κ ⟨h1,h2⟩=>by
 obtain⟨v,h3,h4⟩:=hm κ h2;exact⟨v,h3,fun κ' k'=>⟨h1,h4 κ' k'⟩⟩
theorem Sg.fork {q:Bool} {m m':(α->Prop)->Prop} (hm:Sg m) (hm':Sg m'):Sg (fun κ=>ag q (m κ) (m' κ)):=fun κ h=>by
 cases q with
 |true=>
  obtain⟨v,h3,h4⟩:=hm κ (h.t rfl);exact⟨v,h3,fun κ' k'=>⟨fun _=>h4 κ' k',fun q=>by cases q⟩⟩
 |false=>
  obtain⟨v,h3,h4⟩:=hm' κ (h.f rfl);exact⟨v,h3,fun κ' k'=>⟨(fun q=>by cases q),fun _=>h4 κ' k'⟩⟩
theorem Sg.pick (c a b:AV):Sg (fun κ=>AY c (κ a) (κ b)):=by
 cases c
 case bool q=>cases q<;>exact Sg.one _
 case sb q=>exact Sg.fork (Sg.one _) (Sg.one _)
 all_goals exact Sg.no
end
theorem Sg.sym {op:BinOp} {k j:IntKind} {a b:Int} {c:Bool}:Sg (fun κ=>Hy op k j a b c κ):=by
 cases op
 case shl=>cases c<;>first|exact Sg.and (Sg.one _)|exact Sg.Nq (Sg.one _)
 case shr=>cases c<;>first|exact Sg.and (Sg.one _)|exact Sg.Nq (Sg.one _)
 case quo=>cases c<;>first|exact Sg.bif (Sg.and (Sg.one _))|exact Sg.bif (Sg.Nq (Sg.one _))
 case rem=>cases c<;>first|exact Sg.bif (Sg.and (Sg.one _))|exact Sg.bif (Sg.Nq (Sg.one _))
 all_goals exact Sg.bif (Sg.one _)
theorem Sg.str {op:BinOp} {a b:List Nat}:Sg (fun κ=>Hz op a b κ):=by
 cases op
 case add=>exact Sg.and (Sg.one _)
 all_goals first|exact Sg.one _|exact Sg.no
theorem Sg.bol {op:BinOp} {t:TypeId} {a b:Bool}:Sg (fun κ=>JN op t a b κ):=by
 cases op<;>first|exact Sg.bif (Sg.one _)|exact Sg.bif Sg.no
theorem Sg.bin {op:BinOp} {t:TypeId} {x y:AV} {H:AH}:Sg (fun κ=>HA op t x y H κ):=by
 unfold HA;split<;>first|exact Sg.sym|exact Sg.str|exact Sg.bol|exact Sg.Np (Sg.map mk (Sg.opt _)) (Sg.opt _)|exact Sg.opt _
theorem Sg.un {op:UnOp} {x:AV}:Sg (fun κ=>unP op x κ):=by
 unfold unP;split<;>first|exact Sg.one _|exact Sg.opt _
theorem Sg.mm {q:Bool} {x y:AV}:Sg (fun κ=>mmP q x y κ):=by
 unfold mmP;split<;>first|exact Sg.one _|exact Sg.opt _
theorem Sg.len {t:TypeId} {x:AV} {H:AH}:Sg (fun κ=>HB t x H κ):=by
 unfold HB;split<;>first|exact Sg.map mk (Sg.opt _)|exact Sg.opt _|exact Sg.bif (Sg.one _)
theorem Sg.ix {ix:AV} {len:Nat} {s:Bool}:Sg (fun κ=>ixP ix len s κ):=by
 unfold ixP;split<;>first|exact Sg.idx _ _|exact Sg.opt _
theorem Sg.indexAddr {t:TypeId} {x ix:AV}:Sg (fun κ=>iU t x ix κ):=by
 have h:∀κ,iU t x ix κ=(match Tryz.prog.underlying t,x with
  |some (.slice e),.sl b o n _ _=>cj (aB Tryz.prog e) fun k=>ixP ix n false fun i=>κ (.ptr b (o+i*k))
  |some (.slice e),.sy b o n _ _=>cj (aB Tryz.prog e) fun k=>ixP ix n true fun i=>κ (.ptr b (o+i*k))
  |some (.slice e),.rw b o n _ _=>cj (aB Tryz.prog e) fun k=>ixP ix n true fun i=>κ (.ptr b (o+i*k))
  |some (.slice e),.fr n k' l=>cj (aB Tryz.prog e) fun k=>eE (Nat.beq k k') (ixP ix n true fun i=>κ (.fa l (i*k))) False
  |some (.array len e),.ptr b o=>cj (aB Tryz.prog e) fun k=>ixP ix len false fun i=>κ (.ptr b (o+i*k))
  |_,_=>False):=fun _=>rfl
 (try simp only[h])
 split<;>first|exact Sg.no|exact Sg.DA _ fun k=>Sg.map _ Sg.ix|exact Sg.DA _ fun k=>Sg.bif (Sg.map _ Sg.ix)
theorem Sg.index {t:TypeId} {x ix:AV}:Sg (fun κ=>rU t x ix κ):=by
 have h:∀κ,rU t x ix κ=(match Tryz.prog.underlying t,x with
  |some (.array len e),.agg l=>cj (aB Tryz.prog e) fun k=>ixP ix len false fun i=>cj (xe Tryz.prog e l (i*k)) κ
  |some .string,.str s=>ixP ix s.length false fun i=>cj (nth s i) fun c=>(match ix with
   | .int _ _=>κ (.int .u8 (Int.ofNat c))
   |_=>κ (.si .u8 (Int.ofNat c)))
  |some .string,.ss s=>ixP ix s.length true fun i=>Ask (nth s i) fun c=>κ (.si .u8 (Int.ofNat c))
  |_,_=>False):=fun _=>rfl
 (try simp only[h])
 split
 ·exact Sg.DA _ fun k=>Sg.bind Sg.ix fun i=>Sg.opt _
 ·refine Sg.bind Sg.ix fun i=>Sg.DA _ fun c=>?_
  split<;>exact Sg.one _
 ·exact Sg.bind Sg.ix fun i=>Sg.map _ (Sg.ask _)
 ·exact Sg.no
theorem Sg.get {l:List AV} {t:TypeId} {o:Nat}:Sg (fun κ=>uW l t o κ):=by
 have h:∀κ,uW l t o κ=(match m8 Tryz.prog t with
  |some false=>cj (nth l o) κ
  |some true=>cj (aB Tryz.prog t) fun m=>cj (bp l o m) fun r=>κ (.agg r)
  |none=>False):=fun _=>rfl
 (try simp only[h])
 split
 ·exact Sg.opt _
 ·exact Sg.DA _ fun m=>Sg.map _ (Sg.opt _)
 ·exact Sg.no
theorem Sg.load {t:TypeId} {a:AV} {H:AH}:Sg (fun κ=>s8 t a H κ):=by
 have h:∀κ,s8 t a H κ=(match a with
  | .ptr b o=>(match H.get b with
   |some (.cells l _)=>uW l t o κ
   |some (.ro l)=>uW l t o κ
   |_=>False)
  | .fa l o=>uW l t o κ
  |_=>False):=fun _=>rfl
 (try simp only[h])
 split
 ·split<;>first|exact Sg.get|exact Sg.no
 ·exact Sg.get
 ·exact Sg.no
theorem Sg.rsl {t:TypeId} {b o n k x:Nat} {lo hi mx:Option AV}:Sg (fun κ=>JO t b o n k x lo hi mx κ):=by
 have h:∀κ,JO t b o n k x lo hi mx κ=(match Tryz.prog.underlying t with
  |some (.slice e)=>cj (aB Tryz.prog e) fun es=>eE (Nat.beq es k) (RSl lo hi mx n fun l h=>κ (EY b o n k x lo hi mx l h)) False
  |_=>False):=fun _=>rfl
 (try simp only[h])
 split
 ·exact Sg.DA _ fun es=>Sg.bif (fun κ ⟨l,h,a,b,c,d,e,f⟩=>⟨_,f,fun κ' k'=>⟨l,h,a,b,c,d,e,k'⟩⟩)
 ·exact Sg.no
theorem Sg.fsl {t:TypeId} {n k:Nat} {L:List AV} {lo hi:Option AV}:Sg (fun κ=>JP t n k L lo hi κ):=by
 have h:∀κ,JP t n k L lo hi κ=(match Tryz.prog.underlying t with
  |some (.slice e)=>cj (aB Tryz.prog e) fun es=>eE (Nat.beq es k) (RSl lo hi none n fun l h=>κ (.fr (rwN n l h lo hi) k (frL k L l h lo hi))) False
  |_=>False):=fun _=>rfl
 (try simp only[h])
 split
 ·exact Sg.DA _ fun es=>Sg.bif (fun κ ⟨l,h,a,b,c,d,e,f⟩=>⟨_,f,fun κ' k'=>⟨l,h,a,b,c,d,e,k'⟩⟩)
 ·exact Sg.no
theorem Sg.slice {t:TypeId} {x:AV} {lo hi mx:Option AV}:Sg (fun κ=>gK t x lo hi mx κ):=by
 by_cases hx:∃b o n k q,x= .rw b o n k q
 ·obtain⟨b,o,n,k,q,rfl⟩:=hx;exact Sg.rsl
 by_cases hy:∃n k q,x= .fr n k q
 ·obtain⟨n,k,q,rfl⟩:=hy;cases mx with
  |none=>exact Sg.fsl
  |some y=>exact Sg.no
 ·have h:∀κ,gK t x lo hi mx κ=eE (isS x||(gK.rM lo||(gK.rM hi||gK.rM mx))) (Ask (iR Tryz.prog t (hd x) (lo.map hd) (hi.map hd) (mx.map hd)) fun v=>κ (mk v)) (cj (iR Tryz.prog t x lo hi mx) κ):=fun κ=>by
   cases x<;>first|rfl|exact absurd ⟨_,_,_,_,_,rfl⟩ hx|exact absurd ⟨_,_,_,rfl⟩ hy
  (try simp only[h])
  exact Sg.Np (Sg.map mk (Sg.ask _)) (Sg.opt _)
theorem Sg.q {o:Op} {σ:AE} {H:AH}:Sg (fun κ=>qP o σ H κ):=by
 unfold qP;split
 ·exact Sg.one _
 ·exact Sg.one _
 ·exact Sg.pick _ _ _
 ·exact Sg.load
 ·exact Sg.bin
 ·exact Sg.un
 ·exact Sg.indexAddr
 ·exact Sg.index
 ·exact Sg.slice
 ·exact Sg.Np (Sg.ask _) (Sg.opt _)
 ·split<;>first|exact Sg.len|exact Sg.no
 ·split<;>first|exact Sg.mm|exact Sg.no
 ·split<;>first|exact Sg.mm|exact Sg.no
 ·exact Sg.opt _
section
variable {φ:Ph} {H:AH} {n:Nat} {h0 h:Hp} {σ:AE} {ρ:Env} {cd:CP}
theorem J3 (hr:HR φ H n h0 h) (hf:FR φ σ ρ) {o:Op} {κ:AV->Prop} {K:Value->Prop} (hs:qP o σ H κ) (hk:∀r u,κ r->VR φ r u->K u):de Tryz.prog o ρ h K:=by
 have slow:cj (qy Tryz.prog o σ H) κ->de Tryz.prog o ρ h K:=fun hs=>by
  obtain⟨r,h1,h2⟩:=aP hs;exact s7 hr hf h1 fun u hu=>hk _ u h2 hu
 unfold qP at hs;split at hs
 ·exact hk _ _ hs (hf.ev _)
 ·exact hk _ _ hs (hf.ev _)
 ·rename_i c a b;obtain⟨q,h1,h2,h3⟩:=xy (hf.ev c) hs
  (try simp only[de,h1])
  cases q with
  |true=>exact hk _ _ (h2 rfl) (hf.ev _)
  |false=>exact hk _ _ (h3 rfl) (hf.ev _)
 ·exact nT hr (hf.ev _) hs hk
 ·exact u0 hr (hf.ev _) (hf.ev _) hs hk
 ·exact xt (hf.ev _) hs hk
 ·exact lO (hf.ev _) (hf.ev _) hs hk
 ·exact qC (hf.ev _) (hf.ev _) hs hk
 ·rename_i t x lo hi mx;show da Tryz.prog t (ρ.ev x) (lo.map ρ.ev) (hi.map ρ.ev) (mx.map ρ.ev) K;exact qF hf hs hk
 ·rename_i t m k ok;show fo Tryz.prog t (ρ.ev m) (ρ.ev k) ok h K;cases q:Hw (eev σ k)with
  |true=>
   rw[q]at hs;obtain⟨r,h1,h2⟩:=Ask.inv hs;exact gB hr (hf.ev _) (hf.ev _).hdK h1 fun u hu=>hk r u h2 hu
  |false=>
   rw[q]at hs;obtain⟨r,h1,h2⟩:=aP hs;exact gB hr (hf.ev _) (hf.ev _) h1 fun u hu=>hk r u h2 hu
 ·rename_i xs ts;show dk Tryz.prog .len ts.toList (xs.toList.map ρ.ev) h K;split at hs
  ·rename_i t x e1 e2;obtain⟨v,e3,h1⟩:=P9 hf e2;rw[e1,e3];exact u4 hr h1 hs hk
  ·exact hs.elim
 ·rename_i xs ts;show dk Tryz.prog .min ts.toList (xs.toList.map ρ.ev) h K;split at hs
  ·rename_i x y e2;obtain⟨v,u,e3,h1,h2⟩:=u5 hf e2;rw[e3];exact ib h1 h2 hs hk
  ·exact hs.elim
 ·rename_i xs ts;show dk Tryz.prog .max ts.toList (xs.toList.map ρ.ev) h K;split at hs
  ·rename_i x y e2;obtain⟨v,u,e3,h1,h2⟩:=u5 hf e2;rw[e3];exact ib h1 h2 hs hk
  ·exact hs.elim
 ·exact slow hs
theorem rX {v:AV}:∀{p:Pa} {σ:AE},ak p σ≠ .bad->ak p (rJ v p σ)=v
 | .stop,σ,h=>(h rfl).elim
 | .here,.nil,h=>rfl
 | .here,.node _ _ _,h=>rfl
 | .lo p,.nil,h=>(h rfl).elim
 | .lo p,.node l u r,h=>rX (p:=p) (σ:=l) h
 | .hi p,.nil,h=>(h rfl).elim
 | .hi p,.node l u r,h=>rX (p:=p) (σ:=r) h
def fD (H H':AH):Prop:=∀b o,H.get b=some o->H'.get b=some o
theorem fD.refl (H:AH):fD H H:=fun _ _ h=>h
theorem fD.trans {A B C:AH} (h:fD A B) (k:fD B C):fD A C:=fun b o e=>k b o (h b o e)
theorem HR.less {H':AH} (hr:HR φ H' n h0 h) (hg:fD H H'):HR φ H n h0 h:=
 ⟨hr.dom,fun b o hb=>hr.live b o (hg b o hb),fun b b' o o' p p' hb hb'=>hr.inj b b' o o' p p' (hg _ _ hb) (hg _ _ hb'),hr.base,hr.size,fun z hz=>⟨(hr.frz z hz).1,fun y oy py hy=>(hr.frz z hz).2 y oy py (hg _ _ hy)⟩,hr.b9 (Nat.le_refl _) (fun _ _ h=>⟨hg _ _ h,rfl⟩) (fun _ h=>h) (fun _ h=> .inl h) (fun _ _ _ _ _=>rfl) fun b' o' p' e1 e2 e3=> .inl ⟨b',o',p',hg _ _ e1,e2,e3,rfl⟩⟩
def tf (cd:CP):Prop:=∀f args H n κ,cd f args H n κ->∃v H' n',κ v H' n'/\fD H H'/\n<=n'/\∀κ':PK,κ' v H' n'->cd f args H n κ'
def xA (φ:Ph) (σ:AE) (ts:List Nat) (ρ:Env):Prop:=∀t∈ts,VR φ (ak (pa t) σ) (ρ t)
theorem kC:∀{ts:List Nat},xA φ σ ts ρ->FR φ (ky σ ts) ρ
 | [],_,t,a,h=>by cases h
 |s::ts,hs,t,a,h=>by
  have h:(rJ (ak (pa s) σ) (pa s) (ky σ ts)).get t=some a:=h;rcases nK eg _ s t a h with⟨rfl,h2⟩|⟨_,h2⟩
  ·rw[<-h2];exact hs _ List.mem_cons_self
  ·exact kC (fun x hx=>hs x (List.mem_cons_of_mem _ hx)) t a h2
def J4 (ops:Array Oper) (o:Oper) (ts:List Nat) (σ:AE) (H:AH) (v:AV):Prop:=∀(φ:Ph) (n:Nat) (h0 h:Hp) (ρ:Env) (K:Env->Hp->Prop),HR φ H n h0 h->xA φ σ ts ρ->(∀u,VR φ v u->K (ρ.put o.dst u) h)->aX Tryz.prog ops o ρ h K
def Qa (ops:Array Oper) (o:Oper) (ts:List Nat) (σ:AE) (H:AH) (n:Nat) (v:AV) (H':AH) (n':Nat):Prop:=∀(φ:Ph) (h0 h:Hp) (ρ:Env) (K:Env->Hp->Prop),HR φ H n h0 h->xA φ σ ts ρ->
 (∀ψ u g,PLe φ ψ->HR ψ H' n' h0 g->VR ψ v u->K (ρ.put o.dst u) g)->aX Tryz.prog ops o ρ h K
def Sup (x:Option AV) (a:AV):Prop:=∀φ u,(∀a',x=some a'->VR φ a' u)->VR φ a u
theorem Sup.refl {x:Option AV} {a:AV} (h:x=some a):Sup x a:=fun φ u k=>k a h
theorem Sup.trans {x y:Option AV} {a:AV} (h:∀b,y=some b->Sup x b) (k:Sup y a):Sup x a:=fun φ u q=>k φ u fun b hb=>h b hb φ u q
structure yP (ops:Array Oper) (o:Oper) (b:DB) (hist:List (AH×Nat)) (σ:AE) (H:AH) (n:Nat) (σr:AE) (v:AV) (H1:AH) (n1:Nat):Prop where
 sup:∀t a,σr.get t=some a->Sup (σ.get t) a
 grow:lA o.op=false->fD H H1
 le:n<=n1
 loud:bM o.op=true->Qa ops o b.2 σr H n v H1 n1
 still:bM o.op=false->H1=H/\n1=n/\∃G,(∀k r,b.1=some k->nth ((H,n)::hist) k=some r->G=r.1)/\J4 ops o b.2 σr G v
def bOk (o:Oper) (b:DB):Prop:=match b.1 with
 |none=>(tO o.op||lA o.op)=true
 |some _=>bM o.op=false
theorem DC {t:TypeId} {a v:AV} {H:AH} {n:Nat} {κ:PK} (h:mL t a v H n κ):∃H',κ cM H' n/\∀κ':PK,κ' cM H' n->mL t a v H n κ':=by
 unfold mL at h;split at h
 ·split at h
  ·rename_i l z hb;obtain⟨s,h1,h2⟩:=aP h;obtain⟨h3,h4⟩:=fC h2;obtain⟨l',h5,h6⟩:=aP h4;refine⟨_,h6,fun κ' k=>?_⟩;unfold mL;dsimp only;rw[hb];dsimp only;rw[h1];show eE _ _ _;rw[h3];show cj _ _;rw[h5];exact k
  ·exact h.elim
 ·exact h.elim
theorem DD (hcd:nS cd) (hcs:tf cd) {ops:Array Oper} {o:Oper} {b:DB} {hist:List (AH×Nat)} {k:KP} (hb:bOk o b) (hgs:tQ ops o b.2=true) (hs:JR ops o b cd hist σ H n k):
 ∃σr v H1 n1,yP ops o b hist σ H n σr v H1 n1/\k (cN σr o.dst v) H1 n1:=by
 let go:AE->Prop:=fun σ=>(match b.1 with
  |none=>(match o.op with
   | .call c=>s9 c cd (ky σ b.2) H n fun v H n=>k (cN σ o.dst v) H n
   | .store t a x=>mL t (eev (ky σ b.2) a) (eev (ky σ b.2) x) H n fun v H n=>k (cN σ o.dst v) H n
   | .buildSlice t len parts=>eE (Nat.blt n 1000000) (match H.get n with
    |none=>AZ (.buildSlice t len parts) (ky σ b.2) H n fun v H n=>k (cN σ o.dst v) H n
    |some _=>False) False
   |_=>False)
  |some j=>cj (nth ((H,n)::hist) j) fun r=>qP o.op (ky σ b.2) r.1 fun v=>k (cN σ o.dst v) H n)
 have did:∀σr,(∀t a,σr.get t=some a->Sup (σ.get t) a)->(∀φ ρ h K,xA φ σr b.2 ρ->bE Tryz.prog o.op ρ h (fun v h'=>K (ρ.put o.dst v) h')->aX Tryz.prog ops o ρ h K)->go σr->
  ∃σr v H1 n1,yP ops o b hist σ H n σr v H1 n1/\k (cN σr o.dst v) H1 n1:=by
  intro σr hsup hg hs;unfold bOk at hb;simp only[go]at hs;cases hb1:b.1 with
  |none=>
   rw[hb1]at hs hb;dsimp only at hs hb;split at hs
   ·rename_i c hop;obtain⟨callee,args,ats⟩:=c;rw[hop]at hb;cases callee with
    |builtin _=>cases hb
    |invoke _ _=>cases hb
    |value f=>
     unfold s9 at hs;dsimp only at hs;split at hs
     ·rename_i g a cs q;obtain⟨v,H',n',h1,h2,h3,h4⟩:=hcs _ _ _ _ _ hs;refine⟨σr,v,H',n',⟨hsup,fun _=>h2,h3,fun _=>?_,fun hl=>?_⟩,h1⟩
      ·intro φ h0 h ρ K hr hsl hk;refine hg φ ρ h K hsl ?_
       have hs2:s9 ⟨.value f,args,ats⟩ cd (ky σr b.2) H n fun v2 H2 n2=>v2=v/\H2=H'/\n2=n':=by
        unfold s9;dsimp only;rw[q];exact h4 _ ⟨rfl,rfl,rfl⟩
       rw[hop]
       exact te hcd hr (kC hsl) hs2 fun ψ v2 H2 n2 u g q1 q2 q3 ⟨e1,e2,e3⟩=>by
        rw[e1]at q3;rw[e2,e3]at q2;exact hk ψ u g q1 q2 q3
      ·rw[hop]at hl;cases hl
     ·exact hs.elim
   ·rename_i t a x hop;obtain⟨H',h1,h2⟩:=DC hs;refine⟨σr,cM,H',n,⟨hsup,fun q=>(by rw[hop]at q;cases q),Nat.le_refl _,fun _=>?_,fun hl=>?_⟩,h1⟩
    ·intro φ h0 h ρ K hr hsl hk;refine hg φ ρ h K hsl ?_;rw[hop]
     exact qD hr ((kC hsl).ev a) ((kC hsl).ev x) (h2 (fun v2 H2 n2=>v2=cM/\H2=H'/\n2=n) ⟨rfl,rfl,rfl⟩) fun ψ v2 H2 n2 u g q1 q2 q3 ⟨e1,e2,e3⟩=>by
      rw[e1]at q3;rw[e2,e3]at q2;exact hk ψ u g q1 q2 q3
    ·rw[hop]at hl;cases hl
   ·rename_i t len parts hop;obtain⟨hn1,hs⟩:=fC hs;split at hs
    ·rename_i hn;obtain⟨⟨v,H',n'⟩,h1,h2⟩:=aP hs
     have gr:fD H H'/\n<=n':=by
      simp only[EW]at h1;split at h1
      ·injection h1 with h1;injection h1 with _ h1;injection h1 with h1 h3;subst h1 h3;refine⟨fun b o hb=>PM.aC _ _ _ _ ?_ (fun q=>by subst q;exact(by cases hn.symm.trans hb)) hb,Nat.le_succ _⟩;have q1:n<1000000:=Nat.le_of_ble_eq_true hn1;have q2:(1000001:Nat)<2^aa:=by show 1000001<2^40;decide
       omega
      ·cases h1
     refine⟨σr,v,H',n',⟨hsup,fun _=>gr.1,gr.2,fun _=>?_,fun hl=>?_⟩,h2⟩
     ·intro φ h0 h ρ K hr hsl hk;refine hg φ ρ h K hsl ?_;rw[hop]
      refine td hr (kC hsl) (κ:=fun v2 H2 n2=>v2=v/\H2=H'/\n2=n') ?_ fun ψ v2 H2 n2 u g q1 q2 q3 ⟨e1,e2,e3⟩=>by
       rw[e1]at q3;rw[e2,e3]at q2;exact hk ψ u g q1 q2 q3
      unfold AZ;rw[h1];exact⟨rfl,rfl,rfl⟩
     ·rw[hop]at hl;cases hl
    ·exact hs.elim
   ·exact hs.elim
  |some j=>
   rw[hb1]at hs hb;dsimp only at hs hb;obtain⟨r,h1,h2⟩:=aP hs;obtain⟨v,h3,h4⟩:=Sg.q _ h2;refine⟨σr,v,H,n,⟨hsup,fun _=> .refl _,Nat.le_refl _,fun hl=>(by rw[hl]at hb;cases hb),fun _=>⟨rfl,rfl,r.1,fun k' r' e1 e2=>?_,?_⟩⟩,h3⟩
   ·rw[hb1]at e1;injection e1 with e1;subst e1;rw[h1]at e2;injection e2 with e2;rw[e2]
   ·intro φ n h0 h ρ K hr hsl hk;refine hg φ ρ h K hsl (b8 hb ?_)
    exact J3 hr (kC hsl) (h4 (fun x=>x=v) rfl) fun r u e hu=>by
     subst e;exact hk u hu
 have skip:∀σr,(∀t a,σr.get t=some a->Sup (σ.get t) a)->(∀φ ρ h K,xA φ σr b.2 ρ->K (ρ.put o.dst undef) h->aX Tryz.prog ops o ρ h K)->k (cN σr o.dst cM) H n->
  ∃σr v H1 n1,yP ops o b hist σ H n σr v H1 n1/\k (cN σr o.dst v) H1 n1:=by
  intro σr hsup hg hs;refine⟨σr,cM,H,n,⟨hsup,fun _=> .refl _,Nat.le_refl _,fun hl=>?_,fun _=>?_⟩,hs⟩
  ·intro φ h0 h ρ K hr hsl hk;exact hg φ ρ h K hsl (hk φ undef h (PLe.refl _) hr .undef)
  ·refine⟨rfl,rfl,(match b.1 with
    |some k=>(match nth ((H,n)::hist) k with
     |some r=>r.1
     |none=>H)
    |none=>H),fun k r e1 e2=>by rw[e1];dsimp only;rw[e2],?_⟩
   intro φ n h0 h ρ K hr hsl hk;exact hg φ ρ h K hsl (hk undef .undef)
 have same:∀t a,σ.get t=some a->Sup (σ.get t) a:=fun t a h=> .refl h
 have put:∀(t:Nat) (q:Bool),ak (pa t) σ= .sb q->∀s a,(cN σ (some t) (.bool q)).get s=some a->Sup (σ.get s) a:=fun t q hq s a hg=>by
  rcases nK eg σ t s a hg with⟨rfl,h2⟩|⟨_,h2⟩
  ·subst h2;intro φ u hu;rcases lI eg s σ _ hq with e|e
   ·cases e
   ·have:=(hu _ e).jE;subst this;exact .bool q
  ·exact .refl h2
 have hs:(match o.guard with
  |none=>go σ
  |some (j,want)=>(match jq ops j with
   |none=>False
   |some t=>(match ak (pa t) σ with
    | .bool q=>(match q==want with
     |true=>go σ
     |false=>k (cN σ o.dst cM) H n)
    | .sb q=>(match want with
     |true=>ag q (go (cN σ (some t) (.bool true))) (k (cN (cN σ (some t) (.bool false)) o.dst cM) H n)
     |false=>ag q (k (cN (cN σ (some t) (.bool true)) o.dst cM) H n) (go (cN σ (some t) (.bool false))))
    | .tup _=>k (cN σ o.dst cM) H n
    |_=>False))):=hs
 split at hs
 ·rename_i hg;exact did σ same (fun φ ρ h K _ ha=>by unfold aX;simp only[hg];exact ha) hs
 ·rename_i j want hg;split at hs
  ·exact hs.elim
  ·rename_i t ht
   have htm:t∈b.2:=by
    unfold tQ at hgs;rw[hg]at hgs;dsimp only at hgs;rw[ht]at hgs;simpa using hgs
   have gw:∀(ρ:Env) (h:Hp) (K:Env->Hp->Prop),ρ t= .bool want->bE Tryz.prog o.op ρ h (fun v h'=>K (ρ.put o.dst v) h')->aX Tryz.prog ops o ρ h K:=fun ρ h K hv ha=>by
    unfold aX;simp only[hg,ht,hv];rw[if_pos trivial];exact ha
   have gn:∀(ρ:Env) (h:Hp) (K:Env->Hp->Prop),ρ t= .bool (!want)->K (ρ.put o.dst undef) h->aX Tryz.prog ops o ρ h K:=fun ρ h K hv ha=>by
    unfold aX;simp only[hg,ht,hv];rw[if_neg (by cases want<;>simp)];exact ha
   split at hs
   ·rename_i q hq;split at hs
    ·rename_i hqw;have hqw2:q=want:=by simpa using hqw
     subst hqw2;exact did σ same (fun φ ρ h K hsl ha=>gw ρ h K (by have:=hsl t htm;rw[hq]at this;exact this.bQ) ha) hs
    ·rename_i hqw;have hqw2:q=!want:=by cases q<;>cases want<;>simp_all
     exact skip σ same (fun φ ρ h K hsl ha=>gn ρ h K (by have:=hsl t htm;rw[hq]at this;rw[this.bQ,hqw2]) ha) hs
   ·rename_i q hq
    have gb:∀(q':Bool),ak (pa t) (cN σ (some t) (.bool q'))= .bool q':=fun q'=>by
     exact rX (by rw[hq];simp)
    split at hs
    ·cases q with
     |true=>exact did _ (put t true hq) (fun φ ρ h K hsl ha=>gw ρ h K (by have:=hsl t htm;rw[gb]at this;exact this.bQ) ha) (hs.t rfl)
     |false=>exact skip _ (put t false hq) (fun φ ρ h K hsl ha=>gn ρ h K (by have:=hsl t htm;rw[gb]at this;rw[this.bQ];rfl) ha) (hs.f rfl)
    ·cases q with
     |true=>exact skip _ (put t true hq) (fun φ ρ h K hsl ha=>gn ρ h K (by have:=hsl t htm;rw[gb]at this;rw[this.bQ];rfl) ha) (hs.t rfl)
     |false=>exact did _ (put t false hq) (fun φ ρ h K hsl ha=>gw ρ h K (by have:=hsl t htm;rw[gb]at this;exact this.bQ) ha) (hs.f rfl)
   ·rename_i us hq;refine skip σ same (fun φ ρ h K hsl ha=>?_) hs;have:=hsl t htm;rw[hq]at this;obtain⟨cs,hv,_⟩:=this.eQ;unfold aX;simp only[hg,ht,hv];exact ha
   ·exact hs.elim
end
structure TR where
 v:AV
 σ:AE
 H:AH
 n:Nat
inductive Tr (ops:Array Oper):List Oper->List DB->List (AH×Nat)->AE->AH->Nat->List TR->AE->AH->Nat->Prop
 |nil {bs:List DB} {hist:List (AH×Nat)} {σ:AE} {H:AH} {n:Nat}:Tr ops [] bs hist σ H n [] σ H n
 |cons {o:Oper} {l:List Oper} {b:DB} {bs:List DB} {hist:List (AH×Nat)} {σ:AE} {H:AH} {n:Nat} {σr:AE} {v:AV} {H1:AH} {n1:Nat} {tr:List TR} {σ':AE} {H':AH} {n':Nat}
  (s:yP ops o b hist σ H n σr v H1 n1) (r:Tr ops l bs ((H,n)::hist) (cN σr o.dst v) H1 n1 tr σ' H' n'):Tr ops (o::l) (b::bs) hist σ H n (⟨v,σr,H,n⟩::tr) σ' H' n'
section
variable {φ:Ph} {h0 h:Hp} {ρ:Env} {cd:CP} {ops:Array Oper}
theorem E3 (hcd:nS cd) (hcs:tf cd) {kn:KP}:∀(l:List Oper) (bs:List DB) (hist:List (AH×Nat)) (σ:AE) (H:AH) (n:Nat),(∀(i:Nat) o b,l[i]?=some o->bs[i]?=some b->bOk o b/\tQ ops o b.2=true)->JS ops l bs cd hist σ H n kn->
 ∃tr σ' H' n',Tr ops l bs hist σ H n tr σ' H' n'/\kn σ' H' n'
 | [],bs,hist,σ,H,n,_,hs=>⟨[],σ,H,n,.nil,hs⟩
 |o::l,[],hist,σ,H,n,_,hs=>hs.elim
 |o::l,b::bs,hist,σ,H,n,hb,hs=>by
  have hs:JR ops o b cd hist σ H n (fun σ' H' n'=>JS ops l bs cd ((H,n)::hist) σ' H' n' kn):=hs;obtain⟨h1,h2⟩:=hb 0 o b rfl rfl
  obtain⟨σr,v,H1,n1,h3,h4⟩:=DD hcd hcs h1 h2 hs;obtain⟨tr,σ',H',n',h5,h6⟩:=E3 hcd hcs l bs _ _ H1 n1 (fun i o b e1 e2=>hb (i+1) o b (by simpa using e1) (by simpa using e2)) h4;exact⟨_,σ',H',n',.cons h3 h5,h6⟩
theorem HL {l:List Oper} {bs:List DB} {hist:List (AH×Nat)} {σ:AE} {H:AH} {n:Nat} {tr:List TR} {σ':AE} {H':AH} {n':Nat} (ht:Tr ops l bs hist σ H n tr σ' H' n'):tr.length=l.length:=by
 induction ht with
 |nil=>rfl
 |cons s r ih=>simp[ih]
structure At (ops:Array Oper) (Bs:List DB) (σ0:AE) (val:Nat->AV) (σs:Nat->AE) (Hs:Nat->AH) (ns:Nat->Nat) (i:Nat) (o:Oper):Prop where
 look:∀t a,(σs i).get t=some a->Sup (jF ops val σ0 (fun _=>true) i t) a
 grow:lA o.op=false->fD (Hs i) (Hs (i+1))
 bs:∃b,Bs[i]?=some b/\(bM o.op=true->Qa ops o b.2 (σs i) (Hs i) (ns i) (val i) (Hs (i+1)) (ns (i+1)))/\
  (bM o.op=false->Hs (i+1)=Hs i/\ns (i+1)=ns i/\∀k,b.1=some k->k<=i->J4 ops o b.2 (σs i) (Hs (i-k)) (val i))
theorem Nr {Bs:List DB} {σ0:AE} {val:Nat->AV} {σs:Nat->AE} {Hs:Nat->AH} {ns:Nat->Nat} {l:List Oper} {bs:List DB} {hist:List (AH×Nat)} {σ:AE} {H:AH} {n:Nat} {tr:List TR} {σ':AE} {H':AH} {n':Nat} (ht:Tr ops l bs hist σ H n tr σ' H' n'):
 ∀k,(∀j:Nat,l[j]?=ops[k+j]?)->(∀j:Nat,bs[j]?=Bs[k+j]?)->(∀t a,σ.get t=some a->Sup (jF ops val σ0 (fun _=>true) k t) a)->(∀j,j<k->nth hist j=some (Hs (k-1-j),ns (k-1-j)))->H=Hs k->n=ns k->
 (∀(j:Nat) e,tr[j]?=some e->val (k+j)=e.v/\σs (k+j)=e.σ/\Hs (k+j)=e.H/\ns (k+j)=e.n)->Hs (k+l.length)=H'->ns (k+l.length)=n'->
 (∀i o,k<=i->i<k+l.length->ops[i]?=some o->At ops Bs σ0 val σs Hs ns i o)/\tr.length=l.length/\∀t a,σ'.get t=some a->Sup (jF ops val σ0 (fun _=>true) (k+l.length) t) a:=by
 induction ht with
 |nil=>exact fun k _ _ hσ _ _ _ _ _ _=>⟨fun i o h1 h2=>by simp at h2;omega,rfl,hσ⟩
 | @cons o l b bs hist σ H n σr v H1 n1 tr σ' H' n' s r ih=>
  intro k hl hb hσ hh hH hn htr hH' hn';have ho:ops[k]?=some o:=by simpa using (hl 0).symm
  have hbk:Bs[k]?=some b:=by simpa using (hb 0).symm
  obtain⟨t1,t3,t4,t5⟩:=htr 0 _ rfl
  simp only[Nat.add_zero]at t1 t3 t4 t5
  have hH1:H1=Hs (k+1)/\n1=ns (k+1):=by
   cases r with
   |nil=>exact⟨by simpa using hH'.symm,by simpa using hn'.symm⟩
   |cons s2 r2=>
    obtain⟨_,_,q4,q5⟩:=htr 1 _ rfl
    exact⟨q4.symm,q5.symm⟩
  have hσr:∀t a,σr.get t=some a->Sup (jF ops val σ0 (fun _=>true) k t) a:=fun t a hg=>Sup.trans (fun b hb=>hσ t b hb) (s.sup t a hg)
  have hσ1:∀t a,(cN σr o.dst v).get t=some a->Sup (jF ops val σ0 (fun _=>true) (k+1) t) a:=fun t a hg=>by
   simp only[jF,jN,ho,Option.bind_some,true_and];cases hd:o.dst with
   |none=>rw[hd]at hg;rw[if_neg (by simp)];exact hσr t a hg
   |some d=>
    rw[hd]at hg;rcases nK eg σr d t a hg with⟨rfl,h2⟩|⟨h1,h2⟩
    ·rw[if_pos rfl,t1,h2];exact .refl rfl
    ·rw[if_neg (by simpa using Ne.symm h1)];exact hσr t a h2
  obtain⟨r1,r2,r3⟩:=ih (k+1) (fun j=>by have:=hl (j+1);simpa[Nat.add_assoc,Nat.add_comm 1 j]using this) (fun j=>by have:=hb (j+1);simpa[Nat.add_assoc,Nat.add_comm 1 j]using this) hσ1
   (fun j hj=>by
    cases j with
    |zero=>
     show some (H,n)=_;rw[hH,hn];simp
    |succ j=>
     show nth hist j=_;rw[hh j (by omega)];have:k-1-j=k+1-1-(j+1):=by omega
     rw[this]) hH1.1 hH1.2
   (fun j e he=>by
    have:=htr (j+1) e (by simpa using he);rwa [show k+(j+1)=k+1+j from by omega]at this)
   (by rw[<-hH'];congr 1;simp;omega) (by rw[<-hn'];congr 1;simp;omega)
  have hlen:k+(o::l).length=k+1+l.length:=by simp;omega
  rw[hlen];refine⟨fun i o' h1 h2 ho'=>?_,by simp[r2],r3⟩;by_cases hi:i=k
  ·subst hi;rw[ho]at ho';injection ho' with ho';subst ho';refine⟨?_,?_,b,hbk,fun hl=>?_,fun hl=>?_⟩
   ·rw[t3];exact hσr
   ·rw[<-hH,<-hH1.1];exact fun q=>s.grow q
   ·rw[t3,t1,<-hH,<-hn,<-hH1.1,<-hH1.2];exact s.loud hl
   ·obtain⟨g1,g2,G,g3,g4⟩:=s.still hl;refine⟨by rw[<-hH1.1,<-hH];exact g1,by rw[<-hH1.2,<-hn];exact g2,fun j hj hji=>?_⟩;rw[t3,t1]
    have hr:∃r,nth ((H,n)::hist) j=some r/\r.1=Hs (i-j):=by
     cases j with
     |zero=>exact⟨(H,n),rfl,by rw[Nat.sub_zero];exact hH⟩
     |succ j=>
      refine⟨_,hh j (by omega),?_⟩;show Hs (i-1-j)=_;rw[show i-1-j=i-(j+1) from by omega]
    obtain⟨r,e1,e2⟩:=hr;rw[<-e2,<-g3 j r hj e1];exact g4
  ·exact r1 i o' (by omega) h2 ho'
theorem E4 {A:List Nat} {i j:Nat}:∀(l:List Edge) (m:Nat),(l.foldl (fun m e=>if Region.binds .any e&&decide (e.on<i)then m|||(2^e.on|||A.getD e.on 0)else m) m).testBit j=true->
 m.testBit j=true∨∃e∈l,Region.binds .any e=true/\e.on<i/\(e.on=j∨(A.getD e.on 0).testBit j=true)
 | [],m,h=> .inl h
 |e::l,m,h=>by
  simp only[List.foldl_cons]at h;rcases E4 l _ h with h1|⟨e',h1,h2⟩
  ·split at h1
   ·rename_i hc;simp only[Bool.and_eq_true,decide_eq_true_eq]at hc;simp only[Nat.testBit_or,Bool.or_eq_true,Nat.testBit_two_pow,decide_eq_true_eq]at h1;rcases h1 with h1|h1|h1
    ·exact .inl h1
    ·exact .inr ⟨e,List.mem_cons_self,hc.1,hc.2,.inl h1⟩
    ·exact .inr ⟨e,List.mem_cons_self,hc.1,hc.2,.inr h1⟩
   ·exact .inl h1
  ·exact .inr ⟨e',List.mem_cons_of_mem _ h1,h2⟩
theorem la {A:List Nat} (hA:JU A ops=true) {listed:Array Bool} (hd:Down ops listed) {j:Nat}:∀(m i:Nat),i<m->(∀o,ops[i]?=some o->∀e∈o.after,Region.binds .any e=true->listed.getD e.on false=true)->i<ops.size->rW A j i=true->listed.getD j false=true
 |0,i,hm,_,_,_=>by omega
 |m+1,i,hm,hi,hsz,hb=>by
  have ho:=Array.getElem?_eq_getElem hsz;have h1:=List.all_eq_true.1 hA i (by simpa using hsz);simp only[ho,beq_iff_eq]at h1;unfold rW at hb;rw[h1]at hb;rcases E4 _ _ hb with h2|⟨e,h2,h3,h4,h5⟩
  ·simp at h2
  ·have hl:=hi _ ho e (by simpa using h2) h3;rcases h5 with h5|h5
   ·exact h5▸hl
   ·exact la hA hd m e.on (by omega) (fun o' ho' e' he' hb'=>hd e.on o' ho' hl e' he' hb') (by omega) h5
theorem qG {Bs:List DB} {σ0:AE} {val:Nat->AV} {σs:Nat->AE} {Hs:Nat->AH} {ns:Nat->Nat} (ht:∀i o,ops[i]?=some o->At ops Bs σ0 val σs Hs ns i o):∀(d p:Nat),p+d<=ops.size->(∀j o,p<=j->j<p+d->ops[j]?=some o->bM o.op=false)->Hs (p+d)=Hs p/\ns (p+d)=ns p
 |0,_,_,_=>⟨rfl,rfl⟩
 |d+1,p,hle,hq=>by
  obtain⟨h1,h2⟩:=qG ht d p (by omega) fun j o a b=>hq j o a (by omega)
  have hlt:p+d<ops.size:=by omega
  have ho:=Array.getElem?_eq_getElem hlt;obtain⟨b,_,_,hs⟩:=(ht _ _ ho).bs;obtain⟨g1,g2,_⟩:=hs (hq (p+d) _ (by omega) (by omega) ho);exact⟨by rw[<-h1];exact g1,by rw[<-h2];exact g2⟩
theorem J5 {Bs:List DB} {σ0:AE} {val:Nat->AV} {σs:Nat->AE} {Hs:Nat->AH} {ns:Nat->Nat} (ht:∀i o,ops[i]?=some o->At ops Bs σ0 val σs Hs ns i o):∀(d p:Nat),p+d<=ops.size->(∀j o,p<=j->j<p+d->ops[j]?=some o->lA o.op=false)->fD (Hs p) (Hs (p+d))
 |0,_,_,_=> .refl _
 |d+1,p,hle,hq=>(J5 ht d p (by omega) fun j o a b=>hq j o a (by omega)).trans ((ht _ _ (Array.getElem?_eq_getElem (show p+d<ops.size by omega))).grow (hq (p+d) _ (by omega) (by omega) (Array.getElem?_eq_getElem (show p+d<ops.size by omega))))
theorem J6 {Bs:List DB} {σ0 σ':AE} {val:Nat->AV} {σs:Nat->AE} {Hs:Nat->AH} {ns:Nat->Nat} {N:Env->Hp->Prop} (ht:∀i o,ops[i]?=some o->At ops Bs σ0 val σs Hs ns i o) (hst:uY ops Bs=true)
 (hσ':∀t a,σ'.get t=some a->Sup (jF ops val σ0 (fun _=>true) ops.size t) a) (hr:HR φ (Hs 0) (ns 0) h0 h) (hf:FR φ σ0 ρ) (hN:∀ψ ρ' h',PLe φ ψ->HR ψ (Hs ops.size) (ns ops.size) h0 h'->FR ψ σ' ρ'->N ρ' h'):De Tryz.prog ops ρ h N:=by
 simp only[uY,Bool.and_eq_true]at hst;obtain⟨hed,hanc,hst⟩:=hst;generalize rV ops.toList 0 []=A at hanc hst
 have per:∀i o,ops[i]?=some o->∃b,Bs[i]?=some b/\(∀t∈b.2,t∈looks ops o)/\(match b.1 with
  |none=>tO o.op=true∨(lA o.op=true/\∀j,j<ops.size->j=i∨rW A j i=true)
  |some k=>bM o.op=false/\k<=i/\∀j,j<i-k->yO ops j=true->rW A j i=true)/\
  ∀j a,j<i->ops[j]?=some a->(a.apart ops o=true/\(bM a.op=false∨bM o.op=false))∨rW A j i=true:=fun i o ho=>by
  have hisz:=(Array.getElem?_eq_some_iff.1 ho).1;have h1:=List.all_eq_true.1 hst i (by simpa using hisz);unfold QW at h1;rw[ho]at h1;split at h1
  ·rename_i o' b e1 e2;injection e1 with e1;subst e1;simp only[Bool.and_eq_true,List.all_eq_true]at h1;obtain⟨⟨⟨h1,_⟩,h2⟩,h3⟩:=h1;refine⟨b,e2,fun t htm=>by simpa using h1 t htm,?_,fun j a hlt hj=>?_⟩
   ·split at h2
    ·rename_i e;try simp only[e]
     simp only[Bool.or_eq_true,Bool.and_eq_true,List.all_eq_true]at h2;exact h2.imp id fun q=>⟨q.1,fun j hj=>(q.2 j (by simpa using hj)).imp Nat.eq_of_beq_eq_true id⟩
    ·rename_i k e
     try simp only[e]
     simp only[Bool.and_eq_true,Bool.not_eq_true',decide_eq_true_eq,List.all_eq_true,Bool.or_eq_true]at h2
     exact⟨h2.1,h2.2.1,fun j hj hl=>by
      rcases h2.2.2 j (by simpa using hj)with q|q
      ·rw[hl]at q;cases q
      ·exact q⟩
   ·have:=h3 j (by simpa using hlt);rw[hj]at this;simpa only[Bool.or_eq_true,Bool.and_eq_true,Bool.not_eq_true']using this
  ·cases h1
 have pair:∀i j a b,j<i->ops[i]?=some b->ops[j]?=some a->(a.apart ops b=true/\(bM a.op=false∨bM b.op=false))∨rW A j i=true:=fun i j a b hlt hi hj=>by
  obtain⟨_,_,_,_,h4⟩:=per i b hi;exact h4 j a hlt hj
 refine⟨hed,fun listed ρ1 h1=>∃ψ p,PLe φ ψ/\p<=ops.size/\HR ψ (Hs p) (ns p) h0 h1/\(∀j o,ops[j]?=some o->bM o.op=true->(listed.getD j false=true<->j<p))/\
  ∀t a,jF ops val σ0 (fun j=>listed.getD j false) ops.size t=some a->VR ψ a (ρ1 t),?_,?_,?_⟩
 ·refine⟨φ,0,PLe.refl _,Nat.zero_le _,hr,fun j o hj _=>?_,fun t a e=>?_⟩
  ·have:(Array.replicate ops.size false).getD j false=false:=by simp[Array.getD]
   rw[this];simp
  ·have:jF ops val σ0 (fun j=>(Array.replicate ops.size false).getD j false) ops.size t=jF ops val σ0 (fun j=>decide (j<0)) ops.size t:=
    iT _ fun j _ _=>by simp[Array.getD]
   rw[this,uU _ (Nat.zero_le _)]at e;exact hf t a e
 ·intro listed i o ρ1 h1 hsz hdn ho hun hedge ⟨ψ,p,hp,hple,hr1,hlo,henv⟩ _;have hi:i<ops.size:=(Array.getElem?_eq_some_iff.1 ho).1
  have before:∀j,rW A j i=true->listed.getD j false=true:=fun j hb=>la hanc hdn (i+1) i (by omega) (fun o' ho' e he hb'=>by
   rw[ho]at ho';injection ho' with ho';subst ho';exact hedge e he hb') hi hb
  have behind:∀j,j<ops.size->rW A i j=true->listed.getD j false=false:=fun j hj hb=>by
   cases hl:listed.getD j false with
   |false=>rfl
   |true=>
    have:=la hanc hdn (j+1) j (by omega) (fun o' ho' e he hb'=>hdn j o' ho' hl e he hb') hj hb;rw[hun]at this;cases this
  have hlook:∀t,t∈looks ops o->jF ops val σ0 (fun j=>listed.getD j false) ops.size t=jF ops val σ0 (fun _=>true) i t:=fun t htl=>by
   rw[<-uU (val:=val) ops.size (Nat.le_of_lt hi)];refine iT _ fun j hj hd=>?_
   have hjo:=Array.getElem?_eq_getElem hj;have hd2:ops[j].dst=some t:=by simpa[jN,hjo]using hd
   by_cases hji:j=i
   ·subst hji;simp[hun]
   ·by_cases hlt:j<i
    ·rcases pair i j _ _ hlt ho hjo with⟨ha,_⟩|hb
     ·exact absurd htl ((Oper.apart_spec ha).1 t hd2)
     ·rw[before j hb];simp[hlt]
    ·rcases pair j i _ _ (by omega) hjo ho with⟨ha,_⟩|hb
     ·exact absurd htl ((Oper.apart_spec ha).2.2 t hd2)
     ·rw[behind j hj hb];simp[hlt]
  have hat:=ht i o ho;obtain⟨b,hb1,hb2,hb3,_⟩:=per i o ho;obtain⟨b',hb4,hloud,hstill⟩:=hat.bs;rw[hb1]at hb4;injection hb4 with hb4;subst hb4
  have hsl:xA ψ (σs i) b.2 ρ1:=fun t htm=>by
   rcases lI eg t (σs i) _ rfl with e|e
   ·show VR ψ (ak (pathOf eg t) (σs i)) (ρ1 t);rw[e];exact .bad _
   ·refine hat.look t _ e ψ _ fun a' ha'=>henv t a' ?_
    rw[hlook t (hb2 t htm)];exact ha'
  have hset:∀j,(listed.setIfInBounds i true).getD j false=if j=i then true else listed.getD j false:=fun j=>lF (by omega)
  have henv2:∀{χ:Ph} {u:Value},PLe ψ χ->VR χ (val i) u->∀t a,jF ops val σ0 (fun j=>(listed.setIfInBounds i true).getD j false) ops.size t=some a->VR χ a ((ρ1.put o.dst u) t):=fun{χ u} hpχ hu t a e=>by
   rw[AT (L:=fun j=>listed.getD j false) (i:=i) (fun j hj=>by simp only[hset,if_neg hj]) (by simp only[hset,if_true]) ops.size hi (fun j h1 h2 hd1 hd2=>by
    have hjo:=Array.getElem?_eq_getElem h2;have e1:o.dst=some t:=by simpa[jN,ho]using hd1
    have e2:ops[j].dst=some t:=by simpa[jN,hjo]using hd2
    rcases pair j i _ _ h1 hjo ho with⟨ha,_⟩|hb
    ·exact absurd e2 ((Oper.apart_spec ha).2.1 t e1)
    ·exact behind j h2 hb)]at e
   by_cases hd:o.dst=some t
   ·rw[if_pos (by simpa[jN,ho]using hd)]at e;injection e with e;subst e;rw[hd,qj,uk];exact hu
   ·rw[if_neg (by simpa[jN,ho]using hd)]at e;have:=VR.mono hpχ _ _ (henv t a e);rwa [lE (fun x hx=>by intro q;exact hd (by rw[hx,q]))]
  cases hl:bM o.op with
  |true=>
   have hpi:p<=i:=by
    have:=(hlo i o ho hl);rw[hun]at this;by_cases hc:i<p
    ·have:=this.2 hc;cases this
    ·omega
   have hnol:∀j o',p<=j->j<p+(i-p)->ops[j]?=some o'->bM o'.op=false:=fun j o' h1 h2 hj=>by
    cases hlj:bM o'.op with
    |false=>rfl
    |true=>
     rcases pair i j _ _ (by omega) ho hj with⟨_,hx⟩|hb
     ·rcases hx with hx|hx
      ·rw[hlj]at hx;cases hx
      ·rw[hl]at hx;cases hx
     ·have:=(hlo j o' hj hlj).1 (before j hb);omega
   obtain⟨c1,c2⟩:=qG ht (i-p) p (by omega) hnol;rw[show p+(i-p)=i from by omega]at c1 c2;rw[<-c1,<-c2]at hr1;refine hloud hl ψ h0 h1 ρ1 _ hr1 hsl fun χ u g hpχ hg hu=>⟨χ,i+1,hp.trans hpχ,hi,hg,fun j o' hj hlj=>?_,henv2 hpχ hu⟩
   rw[hset];by_cases hji:j=i
   ·subst hji;simp
   ·rw[if_neg hji];have hjsz:=(Array.getElem?_eq_some_iff.1 hj).1;by_cases hlt:j<i
    ·have:listed.getD j false=true:=by
      rcases pair i j _ _ hlt ho hj with⟨_,hx⟩|hb
      ·rcases hx with hx|hx
       ·rw[hlj]at hx;cases hx
       ·rw[hl]at hx;cases hx
      ·exact before j hb
     rw[this];simp;omega
    ·have:listed.getD j false=false:=by
      rcases pair j i _ _ (by omega) hj ho with⟨_,hx⟩|hb
      ·rcases hx with hx|hx
       ·rw[hl]at hx;cases hx
       ·rw[hlj]at hx;cases hx
      ·exact behind j hjsz hb
     rw[this];simp;omega
  |false=>
   obtain⟨_,_,hsf⟩:=hstill hl
   have hk:∃k,b.1=some k/\k<=i/\∀j,j<i-k->yO ops j=true->rW A j i=true:=by
    split at hb3
    ·rename_i e;rcases hb3 with hb3|⟨hb3,_⟩
     ·unfold tO at hb3;split at hb3
      ·rename_i f xs ts e2;rw[e2]at hl;cases hl
      ·rename_i e2;rw[e2]at hl;cases hl
      ·cases hb3
     ·unfold lA at hb3;split at hb3
      ·rename_i f xs ts e2;rw[e2]at hl;cases hl
      ·cases hb3
    ·rename_i k e;exact⟨k,e,hb3.2⟩
   obtain⟨k,hk1,hk2,hk3⟩:=hk
   have hGr:fD (Hs (i-k)) (Hs p):=by
    by_cases hpk:i-k<=p
    ·have:=J5 ht (p-(i-k)) (i-k) (by omega) fun j o' h1 h2 hj=>by
      cases hst:lA o'.op with
      |false=>rfl
      |true=>
       have hld:bM o'.op=true:=by
        unfold lA at hst;split at hst
        ·rename_i e2;rw[e2];rfl
        ·cases hst
       have hls:=(hlo j o' hj hld).2 (by omega);have hjsz:=(Array.getElem?_eq_some_iff.1 hj).1;obtain⟨b2,_,_,hb2',_⟩:=per j o' hj;split at hb2'
       ·rcases hb2' with q|⟨_,q⟩
        ·unfold lA at hst;split at hst
         ·rename_i e2;rw[e2]at q;cases q
         ·cases hst
        ·rcases q i hi with q|q
         ·subst q;rw[ho]at hj;injection hj with hj;subst hj;rw[hl]at hld;cases hld
         ·rw[behind j hjsz q]at hls;cases hls
       ·rw[hld]at hb2';cases hb2'.1
     rwa [show i-k+(p-(i-k))=p from by omega]at this
    ·obtain⟨c1,_⟩:=qG ht (i-k-p) p (by omega) fun j o' h1 h2 hj=>by
      cases hlj:bM o'.op with
      |false=>rfl
      |true=>
       have h3:=hk3 j (by omega) (by unfold yO;rw[hj];exact hlj);have:=(hlo j o' hj hlj).1 (before j h3);omega
     rw[show p+(i-k-p)=i-k from by omega]at c1;rw[c1];exact .refl _
   refine hsf k hk1 hk2 ψ (ns p) h0 h1 ρ1 _ (hr1.less hGr) hsl fun u hu=>⟨ψ,p,hp,hple,hr1,fun j o' hj hlj=>?_,henv2 (PLe.refl _) hu⟩
   rw[hset];by_cases hji:j=i
   ·subst hji;rw[ho]at hj;injection hj with hj;subst hj;rw[hl]at hlj;cases hlj
   ·rw[if_neg hji];exact hlo j o' hj hlj
 ·intro listed ρ1 h1 hsz hall ⟨ψ,p,hp,hple,hr1,hlo,henv⟩
  obtain⟨c1,c2⟩:=qG ht (ops.size-p) p (by omega) fun j o a b hj=>by
   cases hl:bM o.op with
   |false=>rfl
   |true=>
    have:=(hlo j o hj hl).1 (hall j (by omega));omega
  rw[show p+(ops.size-p)=ops.size from by omega]at c1 c2;rw[<-c1,<-c2]at hr1;refine hN ψ ρ1 h1 hp hr1 fun t a e=>hσ' t a e ψ _ fun a' ha'=>henv t a' ?_
  rw[<-ha'];exact iT _ fun j hj _=>hall j hj
theorem u7 (hcd:nS cd) (hcs:tf cd) {Bs:List DB} {σ:AE} {H:AH} {n:Nat} {kn:KP} {N:Env->Hp->Prop} (hst:uY ops Bs=true) (hs:JS ops ops.toList Bs cd [] σ H n kn) (hr:HR φ H n h0 h) (hf:FR φ σ ρ)
 (hN:∀ψ σ' H' n' ρ' h',PLe φ ψ->HR ψ H' n' h0 h'->FR ψ σ' ρ'->kn σ' H' n'->N ρ' h'):De Tryz.prog ops ρ h N:=by
 have hst2:=hst;simp only[uY,Bool.and_eq_true]at hst2
 obtain⟨tr,σ',H',n',h1,h2⟩:=E3 hcd hcs ops.toList Bs [] σ H n (fun i o b ho hb=>by
  rw[Array.getElem?_toList]at ho;have hisz:=(Array.getElem?_eq_some_iff.1 ho).1;have h1:=List.all_eq_true.1 hst2.2.2 i (by simpa using hisz);unfold QW at h1;rw[ho,hb]at h1;simp only[Bool.and_eq_true]at h1;refine⟨?_,h1.1.1.2⟩;unfold bOk;have h2:=h1.1.2;split at h2
  ·rename_i e;try rw[e]
   simp only[Bool.or_eq_true,Bool.and_eq_true]at h2⊢;exact h2.imp id fun q=>q.1
  ·rename_i k e
   try rw[e]
   simp only[Bool.and_eq_true,Bool.not_eq_true']at h2;exact h2.1) hs
 let dflt:TR:=⟨.bad,.nil,H',n'⟩
 let at_:Nat->TR:=fun j=>(tr[j]?).getD dflt
 have hat:∀(j:Nat) e,tr[j]?=some e->at_ j=e:=fun j e hj=>by simp only[at_,hj,Option.getD_some]
 have hsize:ops.toList.length=ops.size:=Array.length_toList
 have hlen:tr.length=ops.size:=by
  rw[<-hsize];exact HL h1
 let Hs:Nat->AH:=fun j=>if j<tr.length then(at_ j).H else H'
 let ns:Nat->Nat:=fun j=>if j<tr.length then(at_ j).n else n'
 have hend:Hs ops.size=H'/\ns ops.size=n':=⟨by simp only[Hs];rw[if_neg (by omega)],by simp only[ns];rw[if_neg (by omega)]⟩
 have hs0:H=Hs 0/\n=ns 0:=by
  cases hl:ops.toList with
  |nil=>
   have e0:ops.size=0:=by rw[<-hsize,hl];rfl
   rw[hl]at h1;cases h1
   (try simp only[Hs,ns])
   rw[if_neg (by omega),if_neg (by omega)];exact⟨rfl,rfl⟩
  |cons o l=>
   rw[hl]at h1;cases h1 with
   |cons s r=>exact⟨rfl,rfl⟩
 obtain⟨told,_,hfin⟩:=Nr (Bs:=Bs) (σ0:=σ) (val:=fun j=>(at_ j).v) (σs:=fun j=>(at_ j).σ) (Hs:=Hs) (ns:=ns) h1 0 (fun j=>by rw[Nat.zero_add,Array.getElem?_toList]) (fun j=>by rw[Nat.zero_add]) (fun t a q=> .refl q) (fun j hj=>by omega) hs0.1 hs0.2
  (fun j e hj=>by
   have hjl:=(List.getElem?_eq_some_iff.1 hj).1;rw[Nat.zero_add];refine⟨by rw[hat j e hj],by rw[hat j e hj],?_,?_⟩
   ·(try simp only[Hs]);rw[if_pos hjl,hat j e hj]
   ·(try simp only[ns]);rw[if_pos hjl,hat j e hj])
  (by simp only[Hs];rw[if_neg (by rw[hlen,hsize];omega)])
  (by simp only[ns];rw[if_neg (by rw[hlen,hsize];omega)])
 rw[Nat.zero_add,hsize]at told hfin;refine J6 (fun i o ho=>told i o (Nat.zero_le _) (Array.getElem?_eq_some_iff.1 ho).1 ho) hst hfin (by rw[<-hs0.1,<-hs0.2];exact hr) hf ?_;rw[hend.1,hend.2];exact fun ψ ρ' h' a b c=>hN ψ σ' H' n' ρ' h' a b c h2
end
section
variable {φ:Ph} {H:AH} {n:Nat} {h0 h:Hp} {σ:AE} {ρ:Env} {call:CP}
def GoP (φ0:Ph) (h0:Hp) (k:KP) (N:Env->Hp->Prop):Prop:=∀(ψ:Ph) (σ:AE) (H:AH) (n:Nat) (ρ:Env) (h:Hp),PLe φ0 ψ->HR ψ H n h0 h->FR ψ σ ρ->k σ H n->N ρ h
theorem iW (hcall:nS call) {φ0:Ph} {ops:Array Oper} {N:Env->Hp->Prop}:∀(l:List Oper) (φ:Ph) (σ:AE) (H:AH) (n:Nat) (k:KP) (ρ:Env) (h:Hp),PLe φ0 φ->HR φ H n h0 h->FR φ σ ρ->
 tE ops l call σ H n k->GoP φ0 h0 k N->kp Tryz.prog ops l ρ h N
 | [],φ,σ,H,n,k,ρ,h,hp,hr,hf,hs,hN=>hN φ σ H n ρ h hp hr hf hs
 |o::l,φ,σ,H,n,k,ρ,h,hp,hr,hf,hs,hN=>by
  have hs:opP ops o call σ H n (fun σ H n=>tE ops l call σ H n k):=hs
  have did:∀(σ:AE) (ρ:Env),FR φ σ ρ->(uX o.op call σ H n fun v H n=>tE ops l call (cN σ o.dst v) H n k)->bE Tryz.prog o.op ρ h fun v h'=>kp Tryz.prog ops l (ρ.put o.dst v) h' N:=fun σ ρ hf hs=>
   A6 hcall hr hf hs fun ψ v H' n' u g h1 h2 h3 h4=>iW hcall l ψ _ H' n' k _ g (hp.trans h1) h2 ((hf.mono h1).put o.dst h3) h4 hN
  have skip:∀(σ:AE) (ρ:Env),FR φ σ ρ->tE ops l call (cN σ o.dst cM) H n k->kp Tryz.prog ops l (ρ.put o.dst undef) h N:=fun σ ρ hf hs=>
   iW hcall l φ _ H n k _ h hp hr (hf.put o.dst .undef) hs hN
  unfold opP at hs;unfold kp;split at hs
  ·rename_i hg
   (try simp only[hg])
   exact did σ ρ hf hs
  ·rename_i j want hg
   (try simp only[hg])
   split at hs
   ·exact hs.elim
   ·rename_i t ht
    (try simp only[ht])
    have rput:∀q:Bool,ρ t= .bool q->FR φ (cN σ (some t) (.bool q)) (ρ.upd t (.bool q)):=fun q hq=>hf.put (some t) (.bool q)
    split at hs
    ·rename_i q hq;have hv:=(hq▸hf.at t).bQ
     (try simp only[hv])
     split at hs
     ·rename_i hqw;have hqw2:q=want:=by simpa using hqw
      subst hqw2;refine⟨fun _=>?_,(fun k=>by rw[hqw]at k;cases k)⟩;rw[mA hv];exact did σ ρ hf hs
     ·rename_i hqw;have hqw2:(!want)=q:=by cases q<;>cases want<;>simp_all
      refine⟨(fun k=>by rw[hqw]at k;cases k),fun _=>?_⟩;rw[mA (by rw[hv,hqw2])];exact skip σ ρ hf hs
    ·rename_i q hq;have hv:=(hq▸hf.at t).jE
     (try simp only[hv])
     split at hs
     ·cases q with
      |true=>exact⟨fun _=>did _ _ (rput true hv) (hs.t rfl),fun k=>by cases k⟩
      |false=>exact⟨(fun k=>by cases k),fun _=>skip _ _ (rput false hv) (hs.f rfl)⟩
     ·cases q with
      |true=>exact⟨(fun k=>by cases k),fun _=>skip _ _ (rput true hv) (hs.t rfl)⟩
      |false=>exact⟨fun _=>did _ _ (rput false hv) (hs.f rfl),fun k=>by cases k⟩
    ·rename_i us hq;obtain⟨cs,hv,_⟩:=(hq▸hf.at t).eQ
     (try simp only[hv])
     exact skip σ ρ hf hs
    ·exact hs.elim
theorem DE {v:AV} {y:Nat} (h:JM v=some y):v= .any (.func (.yield y) #[] #[]):=by
 unfold JM at h;split at h
 ·injection h with h;subst h;rfl
 ·cases h
theorem pQ (hcall:nS call) {φ0:Ph} {ops:Array Oper} {N:Env->Hp->Prop}:∀(l:List Oper) (φ:Ph) (σ:AE) (H:AH) (n:Nat) (k:KP) (ρ:Env) (h:Hp),PLe φ0 φ->HR φ H n h0 h->FR φ σ ρ->
 HC ops l call σ H n k->GoP φ0 h0 k N->AA Tryz.prog ops l ρ h N
 | [],φ,σ,H,n,k,ρ,h,hp,hr,hf,hs,hN=>hN φ σ H n ρ h hp hr hf hs
 |o::l,φ,σ,H,n,k,ρ,h,hp,hr,hf,hs,hN=>by
  have hs:yOr (Nm o σ) (fun y xs=>Yld y xs H n fun v H n=>HC ops l call (cN σ o.dst v) H n k) (opP ops o call σ H n fun σ H n=>HC ops l call σ H n k):=hs;cases hy:Nm o σ with
  |none=>
   rw[hy]at hs;have hs:tE ops [o] call σ H n (fun σ H n=>HC ops l call σ H n k):=hs;exact .inr (mC (iW hcall [o] φ σ H n _ ρ h hp hr hf hs fun ψ σ' H' n' ρ' h' h1 h2 h3 h4=>pQ hcall l ψ σ' H' n' k ρ' h' h1 h2 h3 h4 hN))
  |some z=>
   obtain⟨y,xs⟩:=z;rw[hy]at hs;obtain⟨run,ok,hrun⟩:Yld y xs H n fun v H n=>HC ops l call (cN σ o.dst v) H n k:=hs
   unfold Nm at hy;split at hy
   ·rename_i f xs hv;split at hy
    ·rename_i y' hy';injection hy with hy;injection hy with e1 e2;subst e1 e2;have hfv:=hf.ev f;rw[DE hy']at hfv;refine .inl ⟨f,xs,y',hv,hfv.tN,ok _ _ _ _ hrun φ h0 h _ _ hr (by rw[Array.toList_map];exact VRs.map hf.ev xs.toList) fun ψ v H' n' u g h1 h2 h3 h4=>?_⟩;exact pQ hcall l ψ _ H' n' k _ g (hp.trans h1) h2 ((hf.mono h1).put o.dst h3) h4 hN
    ·cases hy
   ·cases hy
theorem A7:∀l:List Bool,l∈JV l.length
 | []=>by simp[JV]
 |b::l=>by
  simp only[List.length_cons,JV,List.mem_flatMap];exact⟨l,A7 l,by cases b<;>simp⟩
theorem HM {π:List Nat} (hn:π.Nodup) (u:Nat->Bool) {i j:Nat}:∀{r r2:List Nat},π.filter u=r++i::r2->j∈r->iV π i j=false/\iV π j i=true:=by
 induction π with
 |nil=>intro r r2 h _;simp at h
 |cons x π ih=>
  intro r r2 h hj;obtain⟨hx,hn'⟩:=List.nodup_cons.1 hn;have hnf:(π.filter u).Nodup:=hn'.filter _;cases hu:u x with
  |false=>
   rw[List.filter_cons_of_neg (by simp[hu])]at h;obtain⟨h1,h2⟩:=ih hn' h hj;have hi:i∈π:=(List.mem_filter.1 (show _∈π.filter u by rw[h];simp)).1;have hj':j∈π:=(List.mem_filter.1 (show _∈π.filter u by rw[h];simp[hj])).1
   have b1:Nat.beq x i=false:=by
    cases q:Nat.beq x i with
    |false=>rfl
    |true=>exact absurd (Nat.eq_of_beq_eq_true q▸hi) hx
   have b2:Nat.beq x j=false:=by
    cases q:Nat.beq x j with
    |false=>rfl
    |true=>exact absurd (Nat.eq_of_beq_eq_true q▸hj') hx
   (try simp only[iV,b1,b2,h1,h2]);exact⟨rfl,rfl⟩
  |true=>
   rw[List.filter_cons_of_pos hu]at h;cases r with
   |nil=>cases hj
   |cons y r=>
    simp only[List.cons_append,List.cons.injEq]at h;obtain⟨rfl,h⟩:=h;have hi:i∈π:=(List.mem_filter.1 (show _∈π.filter u by rw[h];simp)).1
    have b1:Nat.beq x i=false:=by
     cases q:Nat.beq x i with
     |false=>rfl
     |true=>exact absurd (Nat.eq_of_beq_eq_true q▸hi) hx
    by_cases hjx:j=x
    ·subst hjx;simp only[iV,b1,Nat.beq_refl];exact⟨rfl,rfl⟩
    ·have hj:j∈r:=by
      rcases List.mem_cons.1 hj with q|q
      ·exact absurd q hjx
      ·exact q
     obtain⟨h1,h2⟩:=ih hn' h hj
     have b2:Nat.beq x j=false:=by
      cases q:Nat.beq x j with
      |false=>rfl
      |true=>exact absurd (Nat.eq_of_beq_eq_true q).symm hjx
     (try simp only[iV,b1,b2,h1,h2]);exact⟨rfl,rfl⟩
theorem J7 {P:Program} {ops:Array Oper} {R:List (Nat×Nat)}:∀{l acc:List Nat},okL P ops R acc l=true->∀{r r2:List Nat} {i:Nat},l=r++i::r2->∀j,(j∈acc∨j∈r)->ng P ops j i=true∨nq ops 6 j i=true∨(j,i)∈R∨(i,j)∈R:=by
 intro l
 induction l with
 |nil=>intro acc h r r2 i e;simp at e
 |cons x l ih=>
  intro acc h r r2 i e j hj;simp only[okL,Bool.and_eq_true]at h;cases r with
  |nil=>
   simp only[List.nil_append,List.cons.injEq]at e;obtain⟨rfl,rfl⟩:=e;have:=List.all_eq_true.1 h.1 j (hj.elim id (fun q=>by cases q));simpa using this
  |cons y r=>
   simp only[List.cons_append,List.cons.injEq]at e;obtain⟨rfl,rfl⟩:=e;refine ih h.2 rfl j ?_
   rcases hj with hj|hj
   ·exact .inl (List.mem_cons_of_mem _ hj)
   ·rcases List.mem_cons.1 hj with rfl|hj
    ·exact .inl List.mem_cons_self
    ·exact .inr hj
theorem yQ {u:Nat->Bool} {i:Nat}:∀{π r r2:List Nat},π.filter u=r++i::r2->∃p p2,π=p++i::p2/\∀j∈r,j∈p:=by
 intro π
 induction π with
 |nil=>intro r r2 h;simp at h
 |cons x π ih=>
  intro r r2 h;cases hu:u x with
  |false=>
   rw[List.filter_cons_of_neg (by simp[hu])]at h;obtain⟨p,p2,rfl,h2⟩:=ih h;exact⟨x::p,p2,rfl,fun j hj=>List.mem_cons_of_mem _ (h2 j hj)⟩
  |true=>
   rw[List.filter_cons_of_pos hu]at h;cases r with
   |nil=>
    simp only[List.nil_append,List.cons.injEq]at h;obtain⟨rfl,_⟩:=h;exact⟨[],π,rfl,fun j hj=>by cases hj⟩
   |cons y r=>
    simp only[List.cons_append,List.cons.injEq]at h;obtain⟨rfl,h⟩:=h;obtain⟨p,p2,rfl,h2⟩:=ih h;refine⟨x::p,p2,rfl,fun j hj=>?_⟩;rcases List.mem_cons.1 hj with rfl|hj
    ·exact List.mem_cons_self
    ·exact List.mem_cons_of_mem _ (h2 j hj)
theorem filter_one {u:Nat->Bool} {i:Nat}:∀{π r r2:List Nat},π.Nodup->π.filter u=r++i::r2->π.filter (fun k=>u k&&!(k==i))=r++r2:=by
 intro π r r2 hn h
 have e:π.filter (fun k=>u k&&!(k==i))=(π.filter u).filter fun k=>!(k==i):=by
  rw[List.filter_filter];exact List.filter_congr fun k _=>by rw[Bool.and_comm]
 have hnf:(r++i::r2).Nodup:=h▸hn.filter _;rw[List.nodup_append,List.nodup_cons]at hnf;obtain⟨_,⟨h1,_⟩,h2⟩:=hnf;rw[e,h,List.filter_append,List.filter_cons_of_neg (by simp)];congr 1
 ·refine List.filter_eq_self.2 fun k hk=>?_
  have:=h2 k hk i (by simp);simpa using this
 ·refine List.filter_eq_self.2 fun k hk=>?_
  have:k≠i:=fun q=>h1 (q▸hk)
  simpa using this
theorem pR {P:Program} {ops:Array Oper} {N:Env->Hp->Prop}:∀(π:List Nat) (ρ:Env) (h:Hp),kp P ops (xp ops.toList π) ρ h N->eH P ops π ρ h N
 | [],_,_,hk=>hk
 |i::π,ρ,h,hk=>by
  have e:nth ops.toList i=ops[i]?:=by rw[fA];simp
  have hk:kp P ops (match nth ops.toList i with
   |some o=>o::xp ops.toList π
   |none=>xp ops.toList π) ρ h N:=hk
  rw[e]at hk;unfold eH;cases ho:ops[i]? with
  |none=>
   simp only[ho]at hk⊢;exact pR π ρ h hk
  |some o=>
   simp only[ho]at hk⊢;exact eO (fun v h' hn=>pR π _ _ hn) (mC hk)
theorem yR {ops:Array Oper} (hed:mD ops=true) {j:Nat}:∀(f i:Nat),nq ops f j i=true->j<i
 |0,_,hb=>by simp[nq]at hb
 |f+1,i,hb=>by
  unfold nq at hb;split at hb
  ·rename_i o ho;obtain⟨e,he,h1⟩:=Array.any_eq_true'.1 hb;simp only[Bool.and_eq_true,Bool.or_eq_true,beq_iff_eq]at h1;have hilt:i<ops.size:=(Array.getElem?_eq_some_iff.1 ho).1;have h2:=List.all_eq_true.1 hed i (by simpa using hilt);simp only[ho]at h2;have h3:=Array.all_eq_true'.1 h2 e he;have hlt:e.on<i:=by simpa[h1.1]using h3
   rcases h1.2 with h4|h4
   ·omega
   ·have:=yR hed f e.on h4;omega
  ·cases hb
def Lin (ops:Array Oper) (rk:Nat->Nat):Prop:=(∀j i,nq ops 6 j i=true->rk j<rk i)/\∀j i,rk j=rk i->j=i
def osR (rk:Nat->Nat) (p:Nat×Nat):Bool:=decide (rk p.1<rk p.2)
theorem tg {α β:Type} {f:α->β}:∀{R:List α} {x:α×β},x∈R.zip (R.map f)->x.2=f x.1/\x.1∈R
 | [],x,h=>by simp at h
 |a::R,x,h=>by
  simp only[List.map_cons,List.zip_cons_cons,List.mem_cons]at h;rcases h with rfl|h
  ·exact⟨rfl,List.mem_cons_self⟩
  ·obtain⟨h1,h2⟩:=tg h;exact⟨h1,List.mem_cons_of_mem _ h2⟩
def RkM (A:List Nat) (rk:Nat->Nat):Prop:=∀i j,(A.getD i 0).testBit j=true->rk j<rk i
theorem A8 {c:Nat->Bool} {j:Nat}:∀(l:List Nat) (m:Nat),(l.foldl (fun m j=>bif c j then m|||2^j else m) m).testBit j=true->m.testBit j=true∨c j=true
 | [],_,h=> .inl h
 |x::l,m,h=>by
  rw[List.foldl_cons]at h;rcases A8 l _ h with h|h
  ·cases hc:c x with
   |false=>rw[hc]at h;exact .inl h
   |true=>
    rw[hc,cond_true,Nat.testBit_or,Bool.or_eq_true]at h;rcases h with h|h
    ·exact .inl h
    ·rw[Nat.testBit_two_pow,decide_eq_true_eq]at h;subst h;exact .inr hc
  ·exact .inr h
theorem J8 {ops:Array Oper} {rk:Nat->Nat} (hl:Lin ops rk):RkM (JW ops) rk:=fun i j h=>by
 unfold JW at h;rw[List.getD_eq_getElem?_getD,List.getElem?_map]at h;cases e:(List.range ops.size)[i]? with
 |none=>rw[e]at h;simp at h
 |some k=>
  have hk:k=i:=by
   rw[List.getElem?_eq_some_iff]at e;obtain⟨_,e⟩:=e;simpa using e.symm
  subst hk;rw[e]at h;rcases A8 _ _ h with h|h
  ·simp at h
  ·exact hl.1 _ _ h
theorem u9 (a b ma:Nat):∀(l:List Nat) (k i:Nat),(uZ a b ma l k).getD i 0=if i<l.length/\(Nat.beq (k+i) b||(l.getD i 0).testBit b)=true then l.getD i 0|||(2^a|||ma)else l.getD i 0
 | [],k,i=>by simp[uZ]
 |m::l,k,0=>by
  show(bif Nat.beq k b||m.testBit b then _ else _)=_;cases h:(Nat.beq k b||m.testBit b)with
  |true=>rw[cond_true,if_pos ⟨by simp,h⟩];rfl
  |false=>rw[cond_false,if_neg (fun q=>by rw[show(Nat.beq (k+0) b||((m::l).getD 0 0).testBit b)=(Nat.beq k b||m.testBit b) from rfl,h]at q;cases q.2)];rfl
 |m::l,k,i+1=>by
  show(uZ a b ma l (k+1)).getD i 0=_;rw[u9 a b ma l (k+1) i];have e1:(m::l).getD (i+1) 0=l.getD i 0:=rfl
  rw[e1,show k+1+i=k+(i+1) by omega];simp only[List.length_cons,Nat.add_lt_add_iff_right]
theorem Ns {A:List Nat} {rk:Nat->Nat} (hA:RkM A rk) {x:Nat×Nat} (hx:rk x.1<rk x.2):RkM (JX A x) rk:=fun i j h=>by
 unfold JX at h;rw[u9,Nat.zero_add]at h;split at h
 ·rename_i q
  have hi:rk x.2<=rk i:=by
   have:=q.2;simp only[Bool.or_eq_true]at this;rcases this with q|q
   ·rw[Nat.eq_of_beq_eq_true q];exact Nat.le_refl _
   ·exact Nat.le_of_lt (hA i _ q)
  simp only[Nat.testBit_or,Bool.or_eq_true,Nat.testBit_two_pow,decide_eq_true_eq]at h;rcases h with h|rfl|h
  ·exact hA i j h
  ·omega
  ·have:=hA _ _ h;omega
 ·exact hA i j h
theorem J9 {A:List Nat} {rk:Nat->Nat} (hA:RkM A rk) {W:List (Nat×Nat)} (hW:∀x∈W,rk x.1<rk x.2):JY A W=true:=by
 have:∀(W:List (Nat×Nat)) (A:List Nat),RkM A rk->(∀x∈W,rk x.1<rk x.2)->RkM (W.foldl JX A) rk:=fun W=>by
  induction W with
  |nil=>exact fun A h _=>h
  |cons x W ih=>exact fun A h hW=>ih _ (Ns h (hW x List.mem_cons_self)) fun y hy=>hW y (List.mem_cons_of_mem _ hy)
 unfold JY;rw[List.all_eq_true];intro i _;cases h:((W.foldl JX A).getD i 0).testBit i with
 |false=>rfl
 |true=>exact absurd (this W A hA hW i i h) (Nat.lt_irrefl _)
theorem Ka {ops:Array Oper} {rk:Nat->Nat} (hl:Lin ops rk) {R:List (Nat×Nat)} (hR:R.all (fun p=>!Nat.beq p.1 p.2)=true):P5 ops R (R.map (osR rk))=true:=by
 have hmem:∀x∈(R.zip (R.map (osR rk))).map (fun x=>QX x.1 x.2),rk x.1<rk x.2:=fun x hx=>by
  obtain⟨⟨p,b⟩,hp,rfl⟩:=List.mem_map.1 hx;obtain⟨hb,hq1⟩:=tg hp;dsimp only at hb hq1;subst hb;obtain⟨q1,rfl⟩:∃q1,q1=p:=⟨p,rfl⟩;have hne:=List.all_eq_true.1 hR q1 hq1;dsimp only;unfold osR QX;by_cases h:rk q1.1<rk q1.2
  ·rw[decide_eq_true h];exact h
  ·rw[decide_eq_false h]
   have:rk q1.1≠rk q1.2:=fun e=>by
    have:=hl.2 _ _ e;rw[this]at hne;simp at hne
   show rk q1.2<rk q1.1;omega
 exact J9 (J8 hl) hmem
theorem Qb (rk:Nat->Nat):∀m:Nat,∃M,∀k,k<m->rk k<M
 |0=>⟨0,fun k h=>by omega⟩
 |m+1=>by
  obtain⟨M,hM⟩:=Qb rk m
  exact⟨M+rk m+1,fun k h=>by
   rcases Nat.lt_or_ge k m with q|q
   ·have:=hM k q;omega
   ·rw[show k=m by omega];omega⟩
theorem Nt {P:Program} {ops:Array Oper} {bs:List DB} {N:Env->Hp->Prop} (hok:JZ P ops bs=true) (hk:∀π∈bs.tail,eH P ops π.2 ρ h N):De P ops ρ h N:=by
 simp only[JZ,Bool.and_eq_true]at hok;obtain⟨hed,hok⟩:=hok;cases bs with
 |nil=>cases hok
 |cons hd πs=>
  dsimp only at hok;simp only[Bool.and_eq_true]at hok;obtain⟨hlo,hne,hall,hπ⟩:=hok;simp only[List.tail_cons]at hk;generalize k9 hd.2=R at hne hall hπ hlo
  have hper:∀π∈πs,π.2.Nodup/\π.2.length=ops.size/\(∀i∈π.2,i<ops.size)/\okL P ops R [] π.2=true:=fun π hm=>by
   have:=List.all_eq_true.1 hπ π hm;simp only[Bool.and_eq_true,decide_eq_true_eq,beq_iff_eq,List.all_eq_true]at this;exact⟨this.1,this.2.1,this.2.2.1,this.2.2.2⟩
  have hmem:∀π∈πs,∀i,i<ops.size->i∈π.2:=fun π hm i hi=>by
   obtain⟨h1,h2,h3,_⟩:=hper π hm;have hsub:π.2⊆List.range ops.size:=fun x hx=>List.mem_range.2 (h3 x hx)
   have hperm:(List.range ops.size)⊆π.2:=by
    intro x hx;by_cases hxm:x∈π.2
    ·exact hxm
    ·exfalso
     have:=List.Nodup.length_le_of_subset (l₁:=x::π.2) (l₂:=List.range ops.size) (List.nodup_cons.2 ⟨hxm,h1⟩) (fun y hy=>by
      rcases List.mem_cons.1 hy with rfl|hy
      ·exact hx
      ·exact hsub hy)
     simp at this;omega
   exact hperm (List.mem_range.2 hi)
  let dec:Array Bool->Nat×Nat->Prop:=fun l p=>l.getD p.1 false=true∨l.getD p.2 false=true
  have hex:∀rk:Nat->Nat,Lin ops rk->∃π∈πs,∀p∈R,iV π.2 p.1 p.2=osR rk p:=fun rk hrk=>by
   have h1:=List.all_eq_true.1 hall (R.map (osR rk)) (by have:=A7 (R.map (osR rk));rwa [List.length_map]at this);rw[Ka hrk hne,Bool.not_true,Bool.false_or]at h1;obtain⟨π,hm,hπe⟩:=List.any_eq_true.1 h1;have hπe:R.map (fun p=>iV π.2 p.1 p.2)=R.map (osR rk):=by simpa using hπe
   exact⟨π,hm,fun p hp=>List.map_inj_left.1 hπe p hp⟩
  refine⟨hed,fun listed ρ h=>∃(o:Nat×Nat->Bool) (S:DB->Prop),(∀p∈R,(listed.getD p.1 false=true->listed.getD p.2 false=false->o p=true)/\(listed.getD p.2 false=true->listed.getD p.1 false=false->o p=false))/\
   (∀rk:Nat->Nat,Lin ops rk->(∀p∈R,dec listed p->osR rk p=o p)->∃π,S π/\∀p∈R,iV π.2 p.1 p.2=osR rk p)/\(∃rk:Nat->Nat,Lin ops rk/\(∀p∈R,dec listed p->osR rk p=o p)/\∀a b,listed.getD a false=true->listed.getD b false=false->rk a<rk b)/\∀π,S π->π∈πs/\eH P ops (π.2.filter fun k=>!listed.getD k false) ρ h N,?_,?_,?_⟩
  ·have e0:∀k,(Array.replicate ops.size false).getD k false=false:=fun k=>by simp[Array.getD]
   refine⟨fun _=>true,fun π=>π∈πs,fun p _=>⟨fun q=>(by rw[e0]at q;cases q),fun q=>(by rw[e0]at q;cases q)⟩,fun rk hrk _=>hex rk hrk,⟨fun k=>k,⟨fun j i hb=>yR hed 6 i hb,fun _ _ e=>e⟩,fun p _ hd=>(by rcases hd with hd|hd<;>(rw[e0]at hd;cases hd)),fun a b ha _=>(by rw[e0]at ha;cases ha)⟩,fun π hm=>⟨hm,?_⟩⟩;have:π.2.filter (fun k=>!(Array.replicate ops.size false).getD k false)=π.2:=List.filter_eq_self.2 fun k _=>by rw[e0];rfl
   rw[this];exact hk π hm
  ·rintro listed i o ρ1 h1 hsz hdn ho hun hedge ⟨or,S,hor,hS,⟨rk,hrk,hro,hrl⟩,hπs⟩ ⟨w,hi⟩;have hilt:i<ops.size:=(Array.getElem?_eq_some_iff.1 ho).1;have hset:∀k,(listed.setIfInBounds i true).getD k false=if k=i then true else listed.getD k false:=fun k=>lF (by rw[hsz];exact hilt)
   let or':Nat×Nat->Bool:=fun p=>if listed.getD p.1 false=true∨listed.getD p.2 false=true then or p else decide (p.1=i)
   have hcmp:∀p∈R,((listed.setIfInBounds i true).getD p.1 false=true->(listed.setIfInBounds i true).getD p.2 false=false->or' p=true)/\((listed.setIfInBounds i true).getD p.2 false=true->(listed.setIfInBounds i true).getD p.1 false=false->or' p=false):=fun p hp=>by
    obtain⟨g1,g2⟩:=hor p hp;rw[hset,hset];refine⟨fun q1 q2=>?_,fun q1 q2=>?_⟩
    ·split at q2
     ·cases q2
     ·rename_i n2;by_cases d1:listed.getD p.1 false=true
      ·(try simp only[or',d1,true_or,if_true]);exact g1 d1 q2
      ·have d1':listed.getD p.1 false=false:=by simpa using d1
       simp only[or',d1',q2,Bool.false_eq_true,or_self,if_false];split at q1
       ·rename_i q;simp[q]
       ·exact absurd q1 d1
    ·split at q2
     ·cases q2
     ·rename_i n2;by_cases d1:listed.getD p.2 false=true
      ·(try simp only[or',d1,or_true,if_true]);exact g2 d1 q2
      ·have d1':listed.getD p.2 false=false:=by simpa using d1
       simp only[or',d1',q2,Bool.false_eq_true,or_self,if_false];simp[n2]
   have hdec:∀p,dec listed p->dec (listed.setIfInBounds i true) p/\or' p=or p:=fun p hd=>by
    refine⟨?_,if_pos hd⟩;rcases hd with hd|hd
    ·exact .inl (by rw[hset];split<;>first|rfl|exact hd)
    ·exact .inr (by rw[hset];split<;>first|rfl|exact hd)
   have hS':∀rk:Nat->Nat,Lin ops rk->(∀p∈R,dec (listed.setIfInBounds i true) p->osR rk p=or' p)->∃π,S π/\∀p∈R,iV π.2 p.1 p.2=osR rk p:=fun rk hrk ho'=>hS rk hrk fun p hp hd=>by
    rw[ho' p hp (hdec p hd).1,(hdec p hd).2]
   obtain⟨M,hM⟩:=Qb rk ops.size
   have hsize:∀k,listed.getD k false=true->k<ops.size:=fun k hk=>by
    rcases Nat.lt_or_ge k ops.size with q|q
    ·exact q
    ·rw[<-hsz]at q;simp[Array.getD,Nat.not_lt.2 q]at hk
   let rk':Nat->Nat:=fun k=>if listed.getD k false=true then rk k else if k=i then M else M+1+k
   have hk1:∀k,listed.getD k false=true->rk' k=rk k:=fun k h=>if_pos h
   have hk2:rk' i=M:=(if_neg (by rw[hun];decide)).trans (if_pos rfl);have hk3:∀k,listed.getD k false=false->k≠i->rk' k=M+1+k:=fun k h1 h2=>by simp only[rk'];rw[if_neg (by rw[h1];decide),if_neg h2]
   have hk4:∀k,listed.getD k false=false->M<=rk' k:=fun k h=>by
    by_cases e:k=i
    ·subst e;omega
    ·rw[hk3 k h e];omega
   have hk5:∀k,listed.getD k false=true->rk' k<M:=fun k h=>by rw[hk1 k h];exact hM k (hsize k h)
   have befl:∀j k,nq ops 6 j k=true->listed.getD k false=true->listed.getD j false=true:=fun j k hb hk=>gY hdn 6 k (fun o' ho' e he hb'=>hdn k o' ho' hk e he hb') hb
   have befi:∀j,nq ops 6 j i=true->listed.getD j false=true:=fun j hb=>gY hdn 6 i (fun o' ho' e he hb'=>by
    rw[ho]at ho';cases ho';exact hedge e he hb') hb
   have hrk':Lin ops rk':=by
    refine⟨fun j k hb=>?_,fun j k e=>?_⟩
    ·cases hlk:listed.getD k false with
     |true=>rw[hk1 k hlk,hk1 j (befl j k hb hlk)];exact hrk.1 j k hb
     |false=>
      by_cases ek:k=i
      ·subst ek;have:=hk5 j (befi j hb);rw[hk2];exact this
      ·cases hlj:listed.getD j false with
       |true=>have:=hk5 j hlj;have:=hk4 k hlk;omega
       |false=>
        by_cases ej:j=i
        ·subst ej;rw[hk2,hk3 k hlk ek];omega
        ·rw[hk3 j hlj ej,hk3 k hlk ek];have:=yR hed 6 k hb;omega
    ·cases hlj:listed.getD j false with
     |true=>
      cases hlk:listed.getD k false with
      |true=>rw[hk1 j hlj,hk1 k hlk]at e;exact hrk.2 j k e
      |false=>have:=hk5 j hlj;have:=hk4 k hlk;omega
     |false=>
      cases hlk:listed.getD k false with
      |true=>have:=hk5 k hlk;have:=hk4 j hlj;omega
      |false=>
       by_cases ej:j=i
       ·by_cases ek:k=i
        ·rw[ej,ek]
        ·subst ej;rw[hk2,hk3 k hlk ek]at e;omega
       ·by_cases ek:k=i
        ·subst ek;rw[hk2,hk3 j hlj ej]at e;omega
        ·rw[hk3 j hlj ej,hk3 k hlk ek]at e;omega
   have hrl':∀a b,(listed.setIfInBounds i true).getD a false=true->(listed.setIfInBounds i true).getD b false=false->rk' a<rk' b:=fun a b ha hb=>by
    rw[hset]at ha hb;split at hb
    ·cases hb
    ·rename_i nb;have h3:=hk3 b hb nb;split at ha
     ·rename_i ea;subst ea;omega
     ·have:=hk5 a ha;omega
   have hro':∀p∈R,dec (listed.setIfInBounds i true) p->osR rk' p=or' p:=fun p hp hd=>by
    obtain⟨g1,g2⟩:=hor p hp
    have hnp:p.1≠p.2:=fun e=>by
     have:=List.all_eq_true.1 hne p hp;rw[e]at this;simp at this
    unfold osR;cases l1:listed.getD p.1 false with
    |true=>
     have e1:or' p=or p:=if_pos (.inl l1);rw[e1];cases l2:listed.getD p.2 false with
     |true=>rw[hk1 _ l1,hk1 _ l2];exact hro p hp (.inl l1)
     |false=>rw[g1 l1 l2];have:=hk5 _ l1;have:=hk4 _ l2;exact decide_eq_true (by omega)
    |false=>
     cases l2:listed.getD p.2 false with
     |true=>
      have e1:or' p=or p:=if_pos (.inr l2);rw[e1,g2 l2 l1];have:=hk5 _ l2;have:=hk4 _ l1;exact decide_eq_false (by omega)
     |false=>
      have e1:or' p=decide (p.1=i):=if_neg (by rw[l1,l2];simp);rw[e1];by_cases h1:p.1=i
      ·have h2:p.2≠i:=fun e=>hnp (h1.trans e.symm)
       rw[decide_eq_true h1,h1,hk2,hk3 _ l2 h2];exact decide_eq_true (by omega)
      ·have h2:p.2=i:=by
        rcases hd with hd|hd
        ·rw[hset,if_neg h1,l1]at hd;cases hd
        ·rw[hset]at hd;split at hd
         ·assumption
         ·rw[l2]at hd;cases hd
       rw[decide_eq_false h1,h2,hk2,hk3 _ l1 h1];exact decide_eq_false (by omega)
   have step:∀π,S π->(∀p∈R,dec (listed.setIfInBounds i true) p->iV π.2 p.1 p.2=or' p)->aX P ops o ρ1 h1 fun ρ' h'=>eH P ops (π.2.filter fun k=>!(listed.setIfInBounds i true).getD k false) ρ' h' N:=fun π hSπ ha=>by
    obtain⟨hm,hrun⟩:=hπs π hSπ;obtain⟨p1,p2,p3,p4⟩:=hper π hm;have him:i∈π.2.filter fun k=>!listed.getD k false:=List.mem_filter.2 ⟨hmem π hm i hilt,by rw[hun];rfl⟩
    obtain⟨r,r2,hr⟩:=List.append_of_mem him
    have hcm:∀j∈r,ng P ops j i=true:=fun j hj=>by
     obtain⟨q,q2,hq,hq2⟩:=yQ hr
     have hjl:listed.getD j false=false:=by
      have:=(List.mem_filter.1 (show j∈π.2.filter fun k=>!listed.getD k false by rw[hr];simp[hj])).2;simpa using this
     obtain⟨f1,f2⟩:=HM p1 _ hr hj
     have hne:j≠i:=fun e=>by
      subst e;have hnd:(π.2.filter fun k=>!listed.getD k false).Nodup:=p1.filter fun k=>!listed.getD k false
      rw[hr,List.nodup_append]at hnd;exact hnd.2.2 j hj j (by simp) rfl
     rcases J7 p4 hq j (.inr (hq2 j hj))with c|c|c|c
     ·exact c
     ·have:=gY hdn 6 i (fun o' ho' e he hb'=>by
       rw[ho]at ho';cases ho';exact hedge e he hb') c
      rw[hjl]at this;cases this
     ·have:=ha (j,i) c (.inr (by rw[hset,if_pos rfl]));rw[f2]at this;simp only[or',hjl,hun,Bool.false_eq_true,or_self,if_false]at this;simp[hne]at this
     ·have:=ha (i,j) c (.inl (by rw[hset,if_pos rfl]));rw[f1]at this;simp only[or',hjl,hun,Bool.false_eq_true,or_self,if_false]at this;simp at this
    rw[hr]at hrun;have hb:=PW ho r r2 hcm hi hrun
    have e:(π.2.filter fun k=>!(listed.setIfInBounds i true).getD k false)=r++r2:=by
     rw[<-filter_one p1 hr];refine List.filter_congr fun k _=>?_
     rw[hset];by_cases hki:k=i<;>simp[hki]
    rw[e];exact hb
   cases hld:bM o.op&&!(rG P o.op||Hk o.op)with
   |true=>
    simp only[Bool.and_eq_true,Bool.not_eq_true']at hld;have hl2:=List.all_eq_true.1 hlo i (by simpa using hilt);simp only[E1,ho,hld.1,hld.2,Bool.not_true,Bool.false_or]at hl2
    have hall':∀p∈R,dec (listed.setIfInBounds i true) p:=fun p hp=>by
     have h2:=List.all_eq_true.1 hl2 p hp;simp only[Bool.or_eq_true,Nat.beq_eq_true_eq]at h2
     have bef:∀j,nq ops 6 j i=true->(listed.setIfInBounds i true).getD j false=true:=fun j hb=>by
      rw[hset];split
      ·rfl
      ·exact gY hdn 6 i (fun o' ho' e he hb'=>by
        rw[ho]at ho';cases ho';exact hedge e he hb') hb
     rcases h2 with h2|h2|h2|h2
     ·exact .inl (by rw[hset,if_pos (Nat.eq_of_beq_eq_true h2)])
     ·exact .inr (by rw[hset,if_pos (Nat.eq_of_beq_eq_true h2)])
     ·exact .inl (bef _ h2)
     ·exact .inr (bef _ h2)
    obtain⟨π,hSπ,hπo⟩:=hS' rk' hrk' hro';refine eO (fun v h' hn=>?_) (step π hSπ fun p hp hd=>(hπo p hp).trans (hro' p hp hd));exact⟨or',fun q=>q=π,hcmp,fun rk2 _ hos=>⟨π,rfl,fun p hp=>by rw[hπo p hp,hro' p hp (hall' p hp),hos p hp (hall' p hp)]⟩,⟨rk',hrk',hro',hrl'⟩,fun q hq=>by subst hq;exact⟨(hπs q hSπ).1,hn⟩⟩
   |false=>
    have hst:∀{ρ:Env} {h:Hp} {K K':Env->Hp->Prop},aX P ops o ρ h K->aX P ops o ρ h K'->∃u h',K (ρ.put o.dst u) h'/\K' (ρ.put o.dst u) h'/\∀L:Env->Hp->Prop,L (ρ.put o.dst u) h'->aX P ops o ρ h L:=fun{ρ h K K'} hk hk'=>by
     simp only[Bool.and_eq_false_iff,Bool.not_eq_false',Bool.or_eq_true]at hld;rcases hld with q|q|q
     ·obtain⟨u,q1⟩:=nF (by simp[gG,q]) hk hk';exact⟨u,h,q1⟩
     ·obtain⟨u,q1⟩:=Av q hk hk';exact⟨u,h,q1⟩
     ·exact Hl q hk hk'
    obtain⟨π0,hS0,hπ0⟩:=hS' rk' hrk' hro';have k0:=step π0 hS0 fun p hp hd=>(hπ0 p hp).trans (hro' p hp hd)
    obtain⟨u,hh,_,_,hu⟩:=hst k0 k0;refine hu _ ⟨or',fun π=>S π/\∀p∈R,dec (listed.setIfInBounds i true) p->iV π.2 p.1 p.2=or' p,hcmp,fun rk2 hr2 hos=>?_,⟨rk',hrk',hro',hrl'⟩,fun π ⟨hSπ,ha⟩=>⟨(hπs π hSπ).1,?_⟩⟩
    ·obtain⟨π,h1,h2⟩:=hS' rk2 hr2 hos;exact⟨π,⟨h1,fun p hp hd=>by rw[h2 p hp,hos p hp hd]⟩,h2⟩
    ·have ku:=hu (fun ρ' h'=>ρ'=ρ1.put o.dst u/\h'=hh) ⟨rfl,rfl⟩;obtain⟨u2,h2,g1,g2,_⟩:=hst ku (step π hSπ ha);rw[<-g1.1,<-g1.2];exact g2
  ·rintro listed ρ1 h1 hsz hl ⟨or,S,_,hS,⟨rk,hrk,hro,_⟩,hπs⟩;obtain⟨π,hSπ,_⟩:=hS rk hrk hro;obtain⟨hm,hrun⟩:=hπs π hSπ
   have:(π.2.filter fun k=>!listed.getD k false)=[]:=List.filter_eq_nil_iff.2 fun k hk=>by
    rw[hl k ((hper π hm).2.2.1 k hk)];simp
   rw[this]at hrun;exact hrun
theorem A9 {ops:Array Oper} {call:CP} {σ:AE} {H:AH} {n:Nat} {k:KP}:∀{πs:List DB},QY ops πs call σ H n k->∀π∈πs,tE ops (xp ops.toList π.2) call σ H n k
 | [],_,π,hm=>by cases hm
 |q::πs,h,π,hm=>by
  have h:tE ops (xp ops.toList q.2) call σ H n k/\QY ops πs call σ H n k:=h;rcases List.mem_cons.1 hm with rfl|hm
  ·exact h.1
  ·exact A9 h.2 π hm
theorem E5 (hf:FR φ σ ρ) {c:Operand} {q:Bool} (hv:ρ.ev c= .bool q):FR φ (QV c q σ) ρ:=by
 cases c with
 |tmp t=>
  have:=hf.put (some t) (VR.bool q);have e:ρ.put (some t) (.bool q)=ρ:=mA hv;rw[e]at this;exact this
 |_=>exact hf
theorem Kb {a b:Bool} (h:(Bool.rec false b a:Bool)=true):a=true/\b=true:=by
 cases a with
 |true=>exact⟨rfl,h⟩
 |false=>cases h
theorem ju (hcall:nS call) {cd:CP} (hcd:nS cd) (hcs:tf cd) {D:DT} {p:Nat} {φ0:Ph} (hφ:∀b q,φ0 b=some q->b<p) (c:Code):lB D c=true->∀(φ:Ph) (σ:AE) (H:AH) (n:Nat) (kn:KP) (kx:Nat->KP) (kr:KP) (ρ:Env) (h:Hp) (N R:EH) (X:Nat->EH),PLe φ0 φ->HR φ H n h0 h->FR φ σ ρ->
 jt p cd D c call σ H n kn kx kr->GoP φ0 h0 kn N->GoP φ0 h0 kr R->(∀i,GoP φ0 h0 (kx i) (X i))->avc Tryz.prog c N R X ρ h:=by
 induction c with
 |skip=>exact fun _ φ σ H n kn kx kr ρ h N R X hp hr hf hs hN _ _=>hN φ σ H n ρ h hp hr hf hs
 |region id ops draw=>
  intro hdr φ σ H n kn kx kr ρ h N R X hp hr hf hs hN _ _;have key:tE ops ops.toList call σ H n kn->kp Tryz.prog ops ops.toList ρ h N:=fun hs=>iW hcall _ φ σ H n kn ρ h hp hr hf hs hN
  unfold avc;cases draw with
  |false=>exact pQ hcall _ φ σ H n kn ρ h hp hr hf hs hN
  |true=>
   have hs:(Option.rec (fun call σ H n kn _ _=>tE ops ops.toList call σ H n kn) (fun bs call σ H n kn _ _=>Nn ops bs call cd σ H n kn) (findD D id):XP) call σ H n kn kx kr:=hs;have hdr:(Option.rec (Az Tryz.prog ops) (fun bs=>E2 Tryz.prog ops bs) (findD D id):Bool)=true:=hdr;rw[if_pos rfl];cases hd:findD D id with
   |none=>
    rw[hd]at hs hdr;exact .inr (.inl ⟨hdr,key hs⟩)
   |some bs=>
    rw[hd]at hs hdr;have hs:Nn ops bs call cd σ H n kn:=hs;have hdr:E2 Tryz.prog ops bs=true:=hdr;unfold Nn at hs;unfold E2 at hdr;cases hnv:J1 bs with
    |true=>rw[hnv]at hs;exact hs.elim
    |false=>
    rw[hnv]at hs hdr;rw[Bool.false_or]at hdr;have hs:J2 ops bs call cd σ H n kn:=hs;unfold J2 at hs;cases hio:J0 bs with
    |true=>
     rw[hio]at hs hdr;exact .inr (.inr (Nt hdr fun π hm=>pR _ _ _ (iW hcall _ φ σ H n kn ρ h hp hr hf (A9 hs π hm) hN)))
    |false=>
     rw[hio]at hs hdr;cases hbl:Nat.blt bs.length ops.size with
     |false=>
      rw[hbl]at hs hdr;exact .inr (.inr (u7 hcd hcs hdr hs hr hf fun ψ σ' H' n' ρ' h' hp' hr' hf' hk'=>hN ψ σ' H' n' ρ' h' (hp.trans hp') hr' hf' hk'))
     |true=>
      rw[hbl]at hs hdr;have hdr:(uY (Hv ops bs.length) bs&&Dv ops bs.length)=true:=hdr;rw[Bool.and_eq_true]at hdr;have hlt:bs.length<ops.size:=by simpa using hbl
      obtain⟨hd1,hd2⟩:=hdr;unfold Dv at hd2;simp only[Bool.and_eq_true,List.all_eq_true,Bool.or_eq_true,List.mem_range]at hd2;refine .inr (.inr (JL (m:=bs.length) (N':=fun ρ' h'=>kp Tryz.prog ops (ops.toList.drop bs.length) ρ' h' N) (Nat.le_of_lt hlt) hd2.1 (fun i hi hsz listed hdn hedge j hj=>la hd2.2.1 hdn (i+1) i (by omega) hedge hsz ((hd2.2.2 i hsz).resolve_left (fun q=>by rw[Nat.blt_eq]at q;omega) j hj)) ?_ fun _ _ h=>h));rw[<-Nj];exact u7 hcd hcs hd1 hs hr hf fun ψ σ' H' n' ρ' h' hp' hr' hf' hk'=>iW hcall _ ψ σ' H' n' kn ρ' h' (hp.trans hp') hr' hf' hk' hN
 |seq a b iha ihb=>
  intro hdr φ σ H n kn kx kr ρ h N R X hp hr hf hs hN hR hX;obtain⟨hda,hdb⟩:=Kb hdr;have hs:(Bool.rec (jt p cd D a call σ H n (fun σ H n=>jt p cd D b call σ H n kn kx kr) kx kr) (xo p (fun k=>jt p cd D a call σ H n k kx kr) (fun σ H n=>jt p cd D b call σ H n kn kx kr)) (Dw D b):Prop):=hs;have way:jt p cd D a call σ H n (fun σ H n=>jt p cd D b call σ H n kn kx kr) kx kr->avc Tryz.prog (.seq a b) N R X ρ h:=fun hs=>iha hda φ σ H n _ kx kr ρ h _ R X hp hr hf hs (fun ψ σ H n ρ h hp hr hf hs=>ihb hdb ψ σ H n kn kx kr ρ h N R X hp hr hf hs hN hR hX) hR hX
  cases hj:Dw D b with
  |false=>rw[hj]at hs;exact way hs
  |true=>
   rw[hj]at hs;rcases hs with hs|⟨α,m,st,hA,hB⟩
   ·exact way hs
   ·refine iha hda φ σ H n _ kx kr ρ h _ R X hp hr hf hA (fun ψ σ1 H1 n1 ρ1 h1 hp1 hr1 hf1 ⟨a',hc⟩=>?_) hR hX;obtain⟨χ,c1,c2,c3⟩:=hc ψ h0 h1 ρ1 hr1 hf1;exact ihb hdb χ _ _ _ kn kx kr ρ1 h1 N R X ⟨fun b q e=>c1.1 b q (hφ b q e) (hp1 b q e),fun q hq=>c1.2.1 q (hp1.z q hq),fun q hq=>hp1.y q (c1.2.2 q hq)⟩ c2 c3 (hB a') hN hR hX
 |cond x a b iha ihb=>
  intro hdr φ σ H n kn kx kr ρ h N R X hp hr hf hs hN hR hX;obtain⟨hda,hdb⟩:=Kb hdr;have hs:JQ x σ (fun σ=>jt p cd D a call σ H n kn kx kr) (fun σ=>jt p cd D b call σ H n kn kx kr):=hs;have hc:=hf.ev x;unfold JQ at hs;unfold avc;split at hs
  ·rename_i q;rw[q]at hc;rw[hc.bQ];exact⟨fun _=>iha hda φ σ H n kn kx kr ρ h N R X hp hr hf hs hN hR hX,(fun k=>by cases k)⟩
  ·rename_i q;rw[q]at hc;rw[hc.bQ];exact⟨(fun k=>by cases k),fun _=>ihb hdb φ σ H n kn kx kr ρ h N R X hp hr hf hs hN hR hX⟩
  ·rename_i q e;rw[e]at hc;have hv:=hc.jE;cases q with
   |true=>rw[hv];exact⟨fun _=>iha hda φ _ H n kn kx kr ρ h N R X hp hr (E5 hf hv) (hs.t rfl) hN hR hX,(fun k=>by cases k)⟩
   |false=>rw[hv];exact⟨(fun k=>by cases k),fun _=>ihb hdb φ _ H n kn kx kr ρ h N R X hp hr (E5 hf hv) (hs.f rfl) hN hR hX⟩
  ·exact hs.elim
 |block id b ih=>
  intro hdr φ σ H n kn kx kr ρ h N R X hp hr hf hs0 hN hR hX;unfold avc;refine ih hdr φ σ H n kn _ kr ρ h N R _ hp hr hf hs0 hN hR fun i ψ σ H n ρ h hp hr hf hs=>?_
  cases hb:Nat.beq i id with
  |true=>
   rw[hb]at hs;have hii:=Nat.eq_of_beq_eq_true hb;rw[if_pos hii];exact hN ψ σ H n ρ h hp hr hf hs
  |false=>
   rw[hb]at hs;have hne:¬i=id:=fun q=>by subst q;simp at hb
   (try simp only[if_neg hne])
   exact hX i ψ σ H n ρ h hp hr hf hs
 |loop b ih=>
  intro hdr φ σ H n kn kx kr ρ h N R X hp hr hf hs hN hR hX;have hs:aS p (fun σ H n k=>jt p cd D b call σ H n k kx kr) σ H n:=hs;unfold avc;rcases hs with⟨α,nn,st,μ,a0,c0,hstep⟩|⟨k0,hroll⟩
  ·skip
   let Q:Env->Hp->Nat->Prop:=fun ρ1 h1 m=>∃ψ a,μ a=m/\PLe φ0 ψ/\HR ψ (st a).2 nn h0 h1/\FR ψ (st a).1 ρ1
   have cov:∀{ψ:Ph} {σ:AE} {H:AH} {n:Nat} {ρ:Env} {h:Hp} {a:α},Cov p σ H n ((st a).1,(st a).2,nn)->PLe φ0 ψ->HR ψ H n h0 h->FR ψ σ ρ->Q ρ h (μ a):=fun{ψ σ H n ρ h a} hc hp hr hf=>by
    obtain⟨χ,h1,h2,h3⟩:=hc ψ h0 h ρ hr hf;exact⟨χ,a,rfl,⟨fun b q e=>h1.1 b q (hφ b q e) (hp b q e),fun q hq=>h1.2.1 q (hp.z q hq),fun q hq=>hp.y q (h1.2.2 q hq)⟩,h2,h3⟩
   have hμ:∀ρ1 h1 g,Q ρ1 h1 g->∃m,Q ρ1 h1 m/\∀k,Q ρ1 h1 k->m<=k:=fun ρ1 h1 g hg=>least g hg
   refine⟨fun ρ1 h1=>∃g,Q ρ1 h1 g,fun ρ1 h1=>Classical.epsilon fun m=>Q ρ1 h1 m/\∀k,Q ρ1 h1 k->m<=k,⟨_,cov c0 hp hr hf⟩,fun ρ1 h1 ⟨g,hg⟩ _ _=>?_⟩;have hsp:=Classical.epsilon_spec (hμ ρ1 h1 g hg);obtain⟨m,hm⟩:∃m,(Classical.epsilon fun m=>Q ρ1 h1 m/\∀k,Q ρ1 h1 k->m<=k)=m:=⟨_,rfl⟩;rw[hm]at hsp;obtain⟨⟨ψ,a,ha,hp1,hr1,hf1⟩,_⟩:=hsp;refine ih hdr ψ _ _ _ _ kx kr ρ1 h1 _ R X hp1 hr1 hf1 (hstep a) (fun χ σ2 H2 n2 ρ2 h2 hp2 hr2 hf2 ⟨a',hlt,hc⟩=>?_) hR hX;have hQ2:=cov hc hp2 hr2 hf2;refine⟨h2,Sub.refl _,⟨_,hQ2⟩,?_⟩;have hsp2:=Classical.epsilon_spec (hμ ρ2 h2 _ hQ2);have:=hsp2.2 _ hQ2
   (try simp only[hm])
   omega
  ·let Q:Env->Hp->Nat->Prop:=fun ρ1 h1 m=>∃ψ σ H n,P0 m (fun σ H n k=>jt p cd D b call σ H n k kx kr) σ H n/\PLe φ0 ψ/\HR ψ H n h0 h1/\FR ψ σ ρ1
   have hμ:∀ρ1 h1 g,Q ρ1 h1 g->∃m,Q ρ1 h1 m/\∀k,Q ρ1 h1 k->m<=k:=fun ρ1 h1 g hg=>least g hg
   refine⟨fun ρ1 h1=>∃g,Q ρ1 h1 g,fun ρ1 h1=>Classical.epsilon fun m=>Q ρ1 h1 m/\∀k,Q ρ1 h1 k->m<=k,⟨k0,φ,σ,H,n,hroll,hp,hr,hf⟩,fun ρ1 h1 ⟨g,hg⟩ _ _=>?_⟩;have hsp:=Classical.epsilon_spec (hμ ρ1 h1 g hg);obtain⟨m,hm⟩:∃m,(Classical.epsilon fun m=>Q ρ1 h1 m/\∀k,Q ρ1 h1 k->m<=k)=m:=⟨_,rfl⟩;rw[hm]at hsp;obtain⟨⟨ψ,σ1,H1,n1,hr0,hp1,hr1,hf1⟩,_⟩:=hsp;cases m with
   |zero=>exact hr0.elim
   |succ m=>
    refine ih hdr ψ _ _ _ _ kx kr ρ1 h1 _ R X hp1 hr1 hf1 hr0 (fun χ σ2 H2 n2 ρ2 h2 hp2 hr2 hf2 h3=>?_) hR hX;have hQ2:Q ρ2 h2 m:=⟨χ,σ2,H2,n2,h3,hp2,hr2,hf2⟩;refine⟨h2,Sub.refl _,⟨_,hQ2⟩,?_⟩;have hsp2:=Classical.epsilon_spec (hμ ρ2 h2 _ hQ2);have:=hsp2.2 _ hQ2
    (try simp only[hm])
    omega
 |exit i=>exact fun _ φ σ H n kn kx kr ρ h N R X hp hr hf hs _ _ hX=>hX i φ σ H n ρ h hp hr hf hs
 |scope b ih=>exact fun hdr φ σ H n kn kx kr ρ h N R X hp hr hf hs hN hR hX=>ih hdr φ σ H n kn kx kr ρ h N R X hp hr hf hs hN hR hX
 |label l=>exact fun _ φ σ H n kn kx kr ρ h N R X hp hr hf hs hN _ _=>hN φ σ H n ρ h hp hr hf hs
 |ret=>exact fun _ φ σ H n kn kx kr ρ h N R X hp hr hf hs _ hR _=>hR φ σ H n ρ h hp hr hf hs
 |_=>intro _ φ σ H n kn kx kr ρ h N R X hp hr hf hs;exact hs.elim
theorem mM (hr:HR φ H n h0 h) (hf:FR φ σ ρ) {K:KH}:∀(rs:List ResultVar) (acc:List Value) (k:List AV->Prop),A0 rs σ H k->(∀vs us,k vs->VRs φ vs us->Fin K (AD (acc.reverse++us)) h)->tD Tryz.prog rs acc ρ h K
 | [],acc,k,hs,hk=>by
  have:=hk [] [] hs .nil;simpa[tD]using this
 | .tmp t::rs,acc,k,hs,hk=>by
  have hs:A0 rs σ H (fun vs=>k (ak (pa t) σ::vs)):=hs;refine mM hr hf rs (ρ t::acc) _ hs fun vs us h1 hus=>?_
  have:=hk _ (ρ t::us) h1 (.cons (hf.at t) hus);simpa using this
 | .cell a t::rs,acc,k,hs,hk=>by
  have hs:s8 t (ak (pa a) σ) H (fun v=>A0 rs σ H fun vs=>k (v::vs)):=hs;refine nT hr (hf.at a) hs fun r u h1 hu=>?_
  refine mM hr hf rs (u::acc) _ h1 fun vs us h2 hus=>?_
  have:=hk _ (u::us) h2 (.cons hu hus);simpa using this
theorem va (hm:Tryz.prog.follows .mixedOrders=true) (hcall:nS call) {cd:CP} (hcd:nS cd) (hcs:tf cd) {D:DT} {f:FuncId} {fn:Func} {c:Code} (hok:Ht Tryz.prog f=true) (hdr:lB D c=true) (hfn:Tryz.prog.funcs[f]?=some fn) (hb:fn.body=some c) {args:List AV} {κ:PK} {vs:Array Value} {K:KH}
 (hs:No call cd D c fn.results.toList fn.ntmps args H n κ) (hr:HR φ H n h0 h) (hargs:VRs φ args vs.toList) (hk:ck φ h0 κ K):dj Tryz.prog f vs h K:=by
 obtain⟨h1,hs⟩:=fC hs;simp only[Ht,hfn,hb,Bool.and_eq_true]at hok;obtain⟨hic,hds⟩:=hok;have hal:=hargs.length;have hle:=Nat.le_of_ble_eq_true h1;refine⟨hic,Jx hm hfn hb rfl rfl hds (by simpa[hal]using hle) fun _=>?_⟩
 have fin:GoP φ h0 (fun σ H n=>A0 fn.results.toList σ H fun vs=>κ (xg vs) H n) (tD Tryz.prog fn.results.toList [] · · K):=fun ψ σ' H' n' ρ' h' hp' hr' hf' hs'=>
  mM hr' hf' _ [] _ hs' fun ws us h2 hus=> .here (hk ψ _ H' n' _ h' hp' hr' (by simpa using AW hus) h2)
 exact ju hcall hcd hcs (fun b q e=>(hr.dom b q e).1) c hdr φ _ H n _ _ _ _ h _ _ _ (PLe.refl _) hr (AU hargs) hs fin fin fun i ψ σ' H' n' ρ' h' _ _ _ q=>q.elim
def ai (f:FuncId) (g:List AV->AH->Nat->PK->Prop):Prop:=∀(args:List AV) (H:AH) (n:Nat) (κ:PK),g args H n κ->∀(φ:Ph) (h0 h:Hp) (vs:Array Value) (K:KH),HR φ H n h0 h->VRs φ args vs.toList->ck φ h0 κ K->dj Tryz.prog f vs h K
def iC (g:List AV->AH->Nat->PK->Prop):Prop:=∀args H n κ,g args H n κ->∃v H' n',κ v H' n'/\fD H H'/\n<=n'/\∀κ':PK,κ' v H' n'->g args H n κ'
def Qc (f:FuncId) (e:EP):Prop:=match e with
 | .no=>True
 | .run D c rs m=>Ht Tryz.prog f=true/\lB D c=true/\∃fn,Tryz.prog.funcs[f]?=some fn/\fn.body=some c/\fn.results.toList=rs/\fn.ntmps=m
 | .nat g=>ai f g
 | .det g=>ai f g/\iC g
def aW (F:FuncId->EP):Prop:=∀f,Qc f (F f)
theorem qH {F:FuncId->EP} (hF:aW F):nS (tc F):=fun f args H n κ hs φ h0 h vs K hr hargs hk=>by
 have hs:(EP.rec (fun _ _ _ _=>False) (fun _ _ _ _ _ _ _ _=>False) (fun _ _ _ _ _=>False) (fun g=>g) (F f):List AV->AH->Nat->PK->Prop) args H n κ:=hs;have hf:=hF f;cases hFf:F f with
 |no=>rw[hFf]at hs;exact hs.elim
 |nat g=>rw[hFf]at hs;exact hs.elim
 |run _ _ _ _=>rw[hFf]at hs;exact hs.elim
 |det g=>rw[hFf]at hs hf;exact hf.1 args H n κ hs φ h0 h vs K hr hargs hk
theorem mN {F:FuncId->EP} (hF:aW F):tf (tc F):=fun f args H n κ hs=>by
 unfold tc at*;have hf:=hF f;cases hFf:F f with
 |no=>rw[hFf]at hs;exact hs.elim
 |nat g=>rw[hFf]at hs;exact hs.elim
 |run _ _ _ _=>rw[hFf]at hs;exact hs.elim
 |det g=>rw[hFf]at hs hf;exact hf.2 args H n κ hs
theorem bR (hm:Tryz.prog.follows .mixedOrders=true) {F:FuncId->EP} (hF:aW F):∀d,nS (ax F d)
 |0=>fun f args H n κ hs=>hs.elim
 |d+1=>fun f args H n κ hs φ h0 h vs K hr hargs hk=>by
  have hs:(EP.rec (fun _ _ _ _=>False) (fun D c rs m=>No (ax F d) (tc F) D c rs m) (fun g=>g) (fun g=>g) (F f):List AV->AH->Nat->PK->Prop) args H n κ:=hs;have hf:=hF f;cases hFf:F f with
  |no=>rw[hFf]at hs;exact hs.elim
  |nat g=>rw[hFf]at hs hf;exact hf args H n κ hs φ h0 h vs K hr hargs hk
  |det g=>rw[hFf]at hs hf;exact hf.1 args H n κ hs φ h0 h vs K hr hargs hk
  |run D c rs m=>
   rw[hFf]at hs hf;obtain⟨hok,hdr,fn,hfn,hb,hrs,hnt⟩:=hf;subst hrs hnt;exact va hm (bR hm hF d) (qH hF) (mN hF) hok hdr hfn hb hs hr hargs hk
theorem vb {D:DT} {f:FuncId} (hok:Ht Tryz.prog f=true) (hdr:xr D f=true):Qc f (xq D f):=by
 unfold xr at hdr;unfold xq;cases hfn:Tryz.prog.funcs[f]? with
 |none=>rw[hfn]at hdr;cases hdr
 |some fn=>
  rw[hfn]at hdr;dsimp only at hdr⊢;cases hb:fn.body with
  |none=>rw[hb]at hdr;cases hdr
  |some c=>
   rw[hb]at hdr;exact⟨hok,hdr,fn,hfn,hb,rfl,rfl⟩
theorem az:aW evP:=fun f=>by
 unfold evP;cases h:PX f with
 |false=>trivial
 |true=>
  cases hd:xr [] f with
  |false=>trivial
  |true=>exact vb h hd
noncomputable def aV (k:FuncId) (D:DT) (F:FuncId->EP) (f:FuncId):EP:=Bool.rec (F f) (xq D k) (Nat.beq f k)
theorem aq {F:FuncId->EP} (hF:aW F) {k:FuncId} {D:DT} (hok:Ht Tryz.prog k=true) (hdr:xr D k=true):aW (aV k D F):=fun f=>by
 unfold aV;cases hb:Nat.beq f k with
 |false=>exact hF f
 |true=>
  have:=Nat.eq_of_beq_eq_true hb;subst this;exact vb hok hdr
noncomputable def cT (k:FuncId) (g:List AV->AH->Nat->PK->Prop) (F:FuncId->EP) (f:FuncId):EP:=Bool.rec (F f) (.det g) (Nat.beq f k)
theorem a8 {F:FuncId->EP} (hF:aW F) {k:FuncId} {g:List AV->AH->Nat->PK->Prop} (hg:ai k g) (hs:iC g):aW (cT k g F):=fun f=>by
 unfold cT;cases hb:Nat.beq f k with
 |false=>exact hF f
 |true=>
  have:=Nat.eq_of_beq_eq_true hb;subst this;exact⟨hg,hs⟩
noncomputable def aw (k:FuncId) (g:List AV->AH->Nat->PK->Prop) (F:FuncId->EP) (f:FuncId):EP:=Bool.rec (F f) (.nat g) (Nat.beq f k)
theorem ae {F:FuncId->EP} (hF:aW F) {k:FuncId} {g:List AV->AH->Nat->PK->Prop} (hg:ai k g):aW (aw k g F):=fun f=>by
 unfold aw;cases hb:Nat.beq f k with
 |false=>exact hF f
 |true=>
  have:=Nat.eq_of_beq_eq_true hb;subst this;exact hg
def flat:AV->Bool
 | .int _ _=>true
 | .str _=>true
 | .bool _=>true
 | .si _ _=>true
 | .sb _=>true
 | .ss _=>true
 | .nil=>true
 | .nsl=>true
 | .tup l=>l.all flat1
 | .agg l=>l.all flat1
 |_=>false
where flat1:AV->Bool
 | .int _ _=>true
 | .str _=>true
 | .bool _=>true
 | .si _ _=>true
 | .sb _=>true
 | .ss _=>true
 | .nil=>true
 | .nsl=>true
 |_=>false
theorem ba {φ ψ:Ph} {a:AV} {v:Value} (hf:flat.flat1 a=true) (h:VR φ a v):VR ψ a v:=by
 cases a<;>first|(cases hf;done)|exact h
theorem oI {φ ψ:Ph}:∀{l:List AV} {vs:List Value},l.all flat.flat1=true->VRs φ l vs->VRs ψ l vs
 | [],vs,_,h=>by rw[h.aM];exact .nil
 |a::l,vs,hf,h=>by
  obtain⟨v,us,rfl,h1,h2⟩:=h.cons_inv;simp only[List.all_cons,Bool.and_eq_true]at hf;exact .cons (ba hf.1 h1) (oI hf.2 h2)
theorem jl {φ ψ:Ph} {a:AV} {v:Value} (hf:flat a=true) (h:VR φ a v):VR ψ a v:=by
 cases a<;>first|(cases hf;done)|exact h|skip
 case agg l=>obtain⟨cs,rfl,h1⟩:=h.dC;exact .agg (oI hf h1)
 case tup l=>obtain⟨cs,rfl,h1⟩:=h.eQ;exact .tup (oI hf h1)
def mkT:AV->AV
 | .tup l=> .tup (l.map mk)
 |v=>mk v
theorem VRs.mk {φ:Ph}:∀{l:List AV} {vs:List Value},VRs φ l vs->VRs φ (l.map Go.Proofs.YtflehenfikoniaaGreat.mk) vs
 | [],vs,h=>by rw[h.aM];exact .nil
 |a::l,vs,h=>by
  obtain⟨v,us,rfl,h1,h2⟩:=h.cons_inv;exact .cons h1.mk (VRs.mk h2)
theorem VR.mkT {φ:Ph} {a:AV} {v:Value} (h:VR φ a v):VR φ (mkT a) v:=by
 cases a<;>first|exact h.mk|skip
 case tup l=>obtain⟨cs,rfl,h1⟩:=h.eQ;exact .tup h1.mk
theorem Ba {a:AV} (h:flat a=true):flat (mkT a)=true:=by
 cases a<;>first|exact h|skip
 case tup l=>
  have:∀{l:List AV},l.all flat.flat1=true->(l.map mk).all flat.flat1=true:=by
   intro l
   induction l with
   |nil=>intro _;rfl
   |cons a l ih=>
    intro hf;simp only[List.all_cons,List.map_cons,Bool.and_eq_true]at hf⊢;refine⟨?_,ih hf.2⟩;cases a<;>exact hf.1
  exact this h
theorem TB {F:FuncId->EP} (hF:aW F) {d:Nat} {f:FuncId} {args:List AV} {v:AV} (ha:args.all flat=true) (hv:flat v=true) (h:ax F d f args .nil 0 fun u _ _=>mkT u=mkT v)
 {φ:Ph} {H:AH} {n:Nat} {h0 hp:Hp} {vs:Array Value} {κ:PK} {K:KH} (hs:κ (mkT v) H n) (hr:HR φ H n h0 hp) (hargs:VRs φ args vs.toList) (hk:ck φ h0 κ K):dj Tryz.prog f vs hp K:=by
 have hargs':VRs Ph.no args vs.toList:=by
  have:∀{l:List AV} {us:List Value},l.all flat=true->VRs φ l us->VRs Ph.no l us:=by
   intro l
   induction l with
   |nil=>intro us _ h;rw[h.aM];exact .nil
   |cons a l ih=>
    intro us hf h;obtain⟨w,ws,rfl,h1,h2⟩:=h.cons_inv;simp only[List.all_cons,Bool.and_eq_true]at hf;exact .cons (jl hf.1 h1) (ih hf.2 h2)
  exact this ha hargs
 have key:Wf hp->dj Tryz.prog f vs hp K:=fun hw=>bR (by kernel_rfl) hF d f args .nil 0 _ h Ph.no hp hp vs K (fB hw) hargs' fun ψ u H' n' w g _ hg hu he=>by
  have hg2:HR φ H n h0 g:=hr.grow (fun b o hb=>(hg.base b o hb).2) hg.size;have h3:VR φ (mkT v) w:=(jl (φ:=ψ) (Ba hv) (he▸hu.mkT));exact hk φ _ H n w g (PLe.refl _) hg2 h3 hs
 have hic:bW Tryz.prog f=true:=(bR (by kernel_rfl) hF d f args .nil 0 _ h Ph.no ⟨fun _=>none,0⟩ ⟨fun _=>none,0⟩ vs (fun _ _=>True) (fB fun _ _ q=>by cases q) hargs' fun _ _ _ _ _ _ _ _ _ _=>trivial).1;exact⟨hic,fun w hi=>(key hi.wf).2 w hi⟩
end
noncomputable def mkE:List (Nat×AV)->AE
 | []=> .nil
 |x::l=>(mkE l).set (some x.2) eg x.1
noncomputable def mkH:List (Nat×AO)->AH
 | []=> .nil
 |x::l=>(mkH l).set (some x.2) aa x.1
theorem mO:∀{l:List (Nat×AV)} {t:Nat} {a:AV},(mkE l).get t=some a->(t,a)∈l
 | [],t,a,h=>by cases h
 |x::l,t,a,h=>by
  rcases PM.aj eg _ x.1 t a h with⟨rfl,h2⟩|⟨_,h2⟩
  ·injection h2 with h2;subst h2;exact List.mem_cons_self
  ·exact List.mem_cons_of_mem _ (mO h2)
theorem b7:∀{l:List (Nat×AO)} {t:Nat} {a:AO},(mkH l).get t=some a->(t,a)∈l
 | [],t,a,h=>by cases h
 |x::l,t,a,h=>by
  rcases PM.aj aa _ x.1 t a h with⟨rfl,h2⟩|⟨_,h2⟩
  ·injection h2 with h2;subst h2;exact List.mem_cons_self
  ·exact List.mem_cons_of_mem _ (b7 h2)
def Ren (m:Nat) (r:Nat->Nat) (φ ψ:Ph):Prop:=(∀b,b<m->ψ b=φ (r b))/\∀q,φ.z q->ψ.z q
def AO.size:AO->Nat
 | .cells l _=>l.length
 | .ro l=>l.length
 | .map _=>0
 | .mp _ _ _=>0
 | .iter _ _ _=>0
 | .sep _=>0
def Room (φ:Ph) (H:AH):Prop:=∀b o p,H.get b=some o->φ b=some p->o.size<=p.T
theorem HR.room {φ:Ph} {H:AH} {n:Nat} {h0 h:Hp} (hr:HR φ H n h0 h):Room φ H:=fun b o p hb hp=>by
 obtain⟨ob,_,_,h4⟩:=hr.of hb hp;cases o with
 |cells l z=>obtain⟨c,t,fz,_,h1,_⟩:=h4;exact h1
 |ro l=>obtain⟨c,t,fz,_,h1,_⟩:=h4;exact h1
 |map es=>exact Nat.zero_le _
 |mp _ _ _=>exact Nat.zero_le _
 |iter _ _ _=>exact Nat.zero_le _
 |sep _=>exact Nat.zero_le _
def ah (H:AH) (m:Nat) (r:Nat->Nat) (a a':AV):Prop:=∀φ ψ v,Ren m r φ ψ->Room φ H->VR φ a v->VR ψ a' v
def au (H:AH) (m:Nat) (r:Nat->Nat) (o o':AO):Prop:=(o.own=o'.own/\o.Hq=o'.Hq)/\∀φ ψ p ob,Ren m r φ ψ->Room φ H->OR φ p o ob->OR ψ p o' ob
section
variable {H:AH} {m:Nat} {r:Nat->Nat}
theorem ah.flat {a a':AV} (h:Go.Proofs.YtflehenfikoniaaGreat.flat a'=true) (e:mk a=mk a'):ah H m r a a':=fun φ ψ v _ _ hv=>by
 have h1:VR φ (mk a') v:=e▸hv.mk;have h2:VR φ a' v:=by cases a'<;>exact h1
 exact jl h h2
theorem ah.int {k:IntKind} {a:AV} {x:Int} (e:mk a= .si k x):ah H m r a (.si k x):=ah.flat rfl e
theorem ah.bool {a:AV} {x:Bool} (e:mk a= .sb x):ah H m r a (.sb x):=ah.flat rfl e
theorem ah.str {a:AV} {x:List Nat} (e:mk a= .ss x):ah H m r a (.ss x):=ah.flat rfl e
theorem ah.ptr {a:AV} {b o:Nat} (hb:b<m) (e:a= .ptr (r b) o):ah H m r a (.ptr b o):=fun φ ψ v hr _ hv=>by
 subst e;obtain⟨p,h1,rfl⟩:=hv.ct;exact .ptr (by rw[hr.1 b hb];exact h1)
theorem ah.nL {a:AV} (h:Go.Proofs.YtflehenfikoniaaGreat.nL a=true):ah H m r a a:=fun φ ψ v hr _ hv=>k7 hr.2 h hv
theorem ah.map {a:AV} {b:Nat} (hb:b<m) (e:a= .map (r b)):ah H m r a (.map b):=fun φ ψ v hr _ hv=>by
 subst e;obtain⟨p,h1,rfl⟩:=hv.kZ;exact .map (by rw[hr.1 b hb];exact h1)
theorem ah.sy {a:AV} {b o n c k:Nat} (hb:b<m) (e:mk a= .sy (r b) o n c k):ah H m r a (.sy b o n c k):=fun φ ψ v hr _ hv=>by
 have h1:VR φ (.sy (r b) o n c k) v:=e▸hv.mk;obtain⟨p,C,h4,rfl,h2,h3⟩:=h1.yG;exact .sy (by rw[hr.1 b hb];exact h4) h2 h3
theorem ah.sl {a:AV} {b o n c k:Nat} (hb:b<m) (e:mk a= .sy (r b) o n c k):ah H m r a (.sl b o n c k):=fun φ ψ v hr hR hv=>(ah.sy hb e φ ψ v hr hR hv).hd
theorem ah.rw {a:AV} {b o n n' k x x':Nat} (hb:b<m) (e:a= .rw (r b) o n' k x') (hn:n'=n:=by first|rfl|simp) (hx:(x<2->x'<2)/\(x=1->x'=1)/\(x≠4->x'≠4):=by decide):ah H m r a (.rw b o n k x):=fun φ ψ v hr _ hv=>by
 subst e hn;rcases hv.gz with⟨rfl,hem⟩|⟨p,y,C,h1,rfl,h2,h3,h4,h5,h6,h7⟩
 ·refine .rwe rfl (hem.imp id fun⟨h1,h2⟩=>⟨?_,h2⟩)
  by_cases hx4:x=4
  ·exact hx4
  ·exact absurd h1 (hx.2.2 hx4)
 ·exact .rwx (by rw[hr.1 b hb];exact h1) h2 h3 h4 h5 (fun q=>h6 (hx.1 q)) (fun q=>h7 (hx.2.1 q))
theorem ah.iD {a:AV} {b o n k x:Nat} (e:a= .nsl) (hn:n=0:=by first|rfl|simp):ah H m r a (.rw b o n k x):=fun φ ψ v hr _ hv=>by
 subst e hn;rw[hv.cP];exact .rwn
theorem au.cells {l l':List AV} {z z':Bool} (hl:l'.length<=l.length) (hz:z'=true->z=true) (h:∀(i:Nat) (a':AV),l'[i]?=some a'->∃a,l[i]?=some a/\ah H m r a a'):au H m r (.cells l z) (.cells l' z'):=
 ⟨⟨rfl,rfl⟩,fun φ ψ p ob hr hR ⟨c,t,fz,h1,h2,h3,h4,h5,h6⟩=>⟨c,t,fz,h1,Nat.le_trans hl h2,h3,h4,fun q=>h5 (hz q),fun i a' hi=>by
  obtain⟨a,h7,h8⟩:=h i a' hi;obtain⟨v,h9,h10⟩:=h6 i a h7;exact⟨v,h9,h8 φ ψ v hr hR h10⟩⟩⟩
theorem au.ro {l l':List AV} (hl:l'.length<=l.length) (h:∀(i:Nat) (a':AV),l'[i]?=some a'->∃a,l[i]?=some a/\ah H m r a a'):au H m r (.ro l) (.ro l'):=
 ⟨⟨rfl,rfl⟩,fun φ ψ p ob hr hR ⟨c,t,fz,h1,h2,h3,h6⟩=>⟨c,t,fz,h1,Nat.le_trans hl h2,h3,fun i a' hi=>by
  obtain⟨a,h7,h8⟩:=h i a' hi;obtain⟨v,h9,h10⟩:=h6 i a h7;exact⟨v,h9,h8 φ ψ v hr hR h10⟩⟩⟩
theorem vc {a:AV} (h:Go.Proofs.YtflehenfikoniaaGreat.flat.flat1 a=true):Go.Proofs.YtflehenfikoniaaGreat.flat a=true:=by cases a<;>first|exact h|cases h
theorem ah.mk1 {a a':AV} (hf:Go.Proofs.YtflehenfikoniaaGreat.flat.flat1 a'=true) (e:mk a=mk a'):ah H m r a a':=ah.flat (vc hf) e
theorem xB {l l':List AV} (hf:l'.all Go.Proofs.YtflehenfikoniaaGreat.flat.flat1=true) (h:l.map mk=l'.map mk) (i:Nat) (a':AV) (hi:l'[i]?=some a'):∃a,l[i]?=some a/\ah H m r a a':=by
 have e:=congrArg (fun x:List AV=>x[i]?) h;simp only[List.getElem?_map,hi,Option.map_some]at e;rw[Option.map_eq_some_iff]at e;obtain⟨a,h1,h2⟩:=e;exact⟨a,h1,.mk1 (List.all_eq_true.1 hf a' (List.mem_of_getElem? hi)) h2⟩
theorem au.bz {l l':List AV} {z z':Bool} (hf:l'.all Go.Proofs.YtflehenfikoniaaGreat.flat.flat1=true) (h:l.map mk=l'.map mk) (hz:z'=true->z=true):au H m r (.cells l z) (.cells l' z'):=
 au.cells (by have:=congrArg List.length h;simp only[List.length_map]at this;omega) hz (xB hf h)
theorem au.Bb {l l':List AV} (hf:l'.all Go.Proofs.YtflehenfikoniaaGreat.flat.flat1=true) (h:l.map mk=l'.map mk):au H m r (.ro l) (.ro l'):=
 au.ro (by have:=congrArg List.length h;simp only[List.length_map]at this;omega) (xB hf h)
theorem vd:∀{s:List Nat},(∀x∈s,x<256)->kq (s.map fun c:Nat=> .si .u8 (Int.ofNat c))=some s
 | [],_=>rfl
 |c::s,h=>by
  have hc:Nat.blt c 256=true:=by rw[Nat.blt_eq];exact h c List.mem_cons_self
  simp only[List.map_cons,kq,hc,vd (s:=s) fun x hx=>h x (List.mem_cons_of_mem _ hx),Option.map_some]
theorem bq {α:Type} {l:List α} {n:Nat} (h:l.length=n):bp l 0 n=some l:=by
 subst h;unfold bp;rw[Nat.zero_add,Nat.ble_eq_true_of_le (Nat.le_refl _)];simp
theorem Cov.ofR {p n:Nat} {σ:AE} {H:AH} {le:List (Nat×AV)} {lh:List (Nat×AO)} (r:Nat->Nat) (hp:p<=m) (hr:∀b,b<p->r b=b) (he:∀x∈le,ah H m r (ak (pa x.1) σ) x.2)
 (hh:∀x∈lh,x.1<m/\((∃o,H.get (r x.1)=some o/\au H m r o x.2)∨(x.2.void=true/\n<=r x.1))) (hi:∀x∈lh,∀y∈lh,r x.1=r y.1->x.1=y.1):Cov p σ H n (mkE le,mkH lh,m):=fun φ h0 h ρ hR hF=>by
 let ψ:Ph:=⟨fun b=>if b<m then φ (r b)else none,φ.z,φ.y,fun b=>φ.s (r b)⟩
 have hren:Ren m r φ ψ:=⟨fun b hb=>by simp only[ψ,if_pos hb],fun _ h=>h⟩;have hroom:=hR.room
 have hvoid:∀b,n<=b->φ b=none:=fun b hb=>by
  cases hq:φ b with
  |none=>rfl
  |some p=>exact absurd (hR.dom b p hq).1 (by omega)
 refine⟨ψ,⟨fun b q hb hq=>?_,fun _ h=>h,fun _ h=>h⟩,⟨fun b q hq=>?_,fun b o hb=>?_,fun b b' o o' q q' hb hb' hw hw' hq hq' e=>?_,hR.base,hR.size,fun q hq=>?_,fun b Q hb=>?_⟩,fun t a ht=>?_⟩
 ·simp only[ψ,if_pos (Nat.lt_of_lt_of_le hb hp),hr b hb];exact hq
 ·simp only[ψ]at hq;split at hq
  ·rename_i hb;exact⟨hb,(hR.dom _ _ hq).2⟩
  ·cases hq
 ·obtain⟨h1,⟨o2,h2,h3,h4⟩|⟨h2,h3⟩⟩:=hh _ (b7 hb)
  ·rcases hR.live _ _ h2 with⟨g1,g2⟩|⟨q,ob,g1,g2,g3,g4⟩
   ·refine .inl ⟨by simp only[ψ,if_pos h1];exact g1,?_⟩;cases hns:o2.Hq with
    |some Q=>
     rw[h3.2]at hns;cases o<;>first|rfl|cases hns
    |none=>
    obtain⟨q,hq⟩:∃q:Pl,q=⟨0,0,0⟩:=⟨_,rfl⟩
    have key:OR φ q o2 (.cells #[] default (0,0)):=by
     cases o2 with
     |cells l z=>
      cases l with
      |nil=>exact⟨#[],default,_,rfl,by simp,by subst hq;simp,iO _ _,fun _=>rfl,fun i a h=>by simp at h⟩
      |cons _ _=>cases g2
     |ro l=>
      cases l with
      |nil=>exact⟨#[],default,_,rfl,by simp,by subst hq;simp,fun i a h=>by simp at h⟩
      |cons _ _=>cases g2
     |map _=>cases g2
     |mp _ _ _=>cases g2
     |iter _ _ _=>cases g2
     |sep _=>cases hns
    have k2:=h4 φ ψ q _ hren hroom key;cases o with
    |cells l z=>
     obtain⟨c,t,fz,e,k3,_⟩:=k2;subst hq;cases l with
     |nil=>rfl
     |cons _ _=>simp at k3
    |ro l=>
     obtain⟨c,t,fz,e,k3,_⟩:=k2;subst hq;cases l with
     |nil=>rfl
     |cons _ _=>simp at k3
    |map _=>obtain⟨ms,cl,e,_⟩:=k2;cases e
    |mp _ _ _=>obtain⟨ms,e,_⟩:=k2;cases e
    |iter _ _ _=>obtain⟨_,q',_,e⟩:=k2;cases e
    |sep _=>rfl
   ·refine .inr ⟨q,ob,by simp only[ψ,if_pos h1];exact g1,?_,g3,h4 φ ψ q ob hren hroom g4⟩;rw[g2];cases o2<;>cases o<;>first|rfl|cases h3.1|cases g4
  ·exact .inl ⟨by simp only[ψ,if_pos h1];exact hvoid _ h3,AO.EX h2⟩
 ·obtain⟨h1,h2'⟩:=hh _ (b7 hb);obtain⟨h1',h3'⟩:=hh _ (b7 hb');simp only[ψ,if_pos h1]at hq;simp only[ψ,if_pos h1']at hq';rcases h2' with⟨o2,h2,h3,h4⟩|⟨_,h3⟩
  ·rcases h3' with⟨o2',h2',h3',h4'⟩|⟨_,h3'⟩
   ·exact hi _ (b7 hb) _ (b7 hb') (hR.inj _ _ _ _ _ _ h2 h2' (h3.1.trans hw) (h3'.1.trans hw') hq hq' e)
   ·rw[hvoid _ h3']at hq';cases hq'
  ·rw[hvoid _ h3]at hq;cases hq
 ·obtain⟨⟨g1,g9⟩,g2⟩:=hR.frz q hq;refine⟨⟨FzR.mono hren.2 g1,g9⟩,fun b o q' hb hw hq'=>?_⟩;obtain⟨h1,h2'⟩:=hh _ (b7 hb);simp only[ψ,if_pos h1]at hq';rcases h2' with⟨o2,h2,h3,h4⟩|⟨_,h3⟩
  ·exact g2 _ _ _ h2 (h3.1.trans hw) hq'
  ·rw[hvoid _ h3]at hq';cases hq'
 ·
  have src:∀{b Q},(mkH lh).get b=some (.sep Q)->b<m/\H.get (r b)=some (.sep Q):=fun{b Q} hb=>by
   obtain⟨h1,⟨o2,h2,h3,_⟩|⟨h2,_⟩⟩:=hh _ (b7 hb)
   ·have:=h3.2;cases o2<;>first|cases this;done|(cases this;exact⟨h1,h2⟩)
   ·cases h2
  obtain⟨h1,h2⟩:=src hb;obtain⟨k1,k2⟩:=hR.sep _ _ h2;refine⟨k1,fun B hB=>?_⟩;obtain⟨g1,g2,g3,g4⟩:=k2 B hB;refine⟨g1,fun b' o' p' e1 e2 e3=>?_,g3,fun b' Q' e1 e2 e3=>?_⟩
  ·obtain⟨f1,f2⟩:=hh _ (b7 e1);simp only[ψ,if_pos f1]at e3;rcases f2 with⟨o2,f2,f3,_⟩|⟨_,f3⟩
   ·exact g2 _ _ _ f2 (f3.1.trans e2) e3
   ·rw[hvoid _ f3]at e3;cases e3
  ·obtain⟨_,f2⟩:=src e1;exact g4 _ _ f2 (fun q=>e2 (hi _ (b7 e1) _ (b7 hb) q)) e3
 ·exact he _ (mO ht) φ ψ _ hren hroom (hF.at t)
theorem Cov.of {p n:Nat} {σ:AE} {H:AH} {le:List (Nat×AV)} {lh:List (Nat×AO)} (r:Nat->Nat) (hp:p<=m) (hr:∀b,b<p->r b=b) (he:∀x∈le,ah H m r (ak (pa x.1) σ) x.2)
 (hh:∀x∈lh,x.1<m/\∃o,H.get (r x.1)=some o/\au H m r o x.2) (hi:∀x∈lh,∀y∈lh,r x.1=r y.1->x.1=y.1):Cov p σ H n (mkE le,mkH lh,m):=Cov.ofR r hp hr he (fun x hx=>⟨(hh x hx).1,.inl (hh x hx).2⟩) hi
def Bd {α:Type} (P:α->Prop):List α->Prop
 | []=>True
 |x::l=>P x/\Bd P l
theorem Bd.at {α:Type} {P:α->Prop}:∀{l:List α},Bd P l->∀x∈l,P x
 |_::_,h,x,hx=>(List.mem_cons.1 hx).elim (fun e=>e▸h.1) (fun hx=>Bd.at h.2 x hx)
def Kc (m:Nat):List Nat->Bool
 | []=>true
 |x::l=>Nat.blt x m&&Kc m l
theorem E6 {m:Nat}:∀{l:List Nat},Kc m l=true->∀x∈l,x<m
 |a::l,h,x,hx=>by
  simp only[Kc,Bool.and_eq_true,Nat.blt_eq]at h;exact(List.mem_cons.1 hx).elim (fun e=>e▸h.1) (fun hx=>E6 h.2 x hx)
theorem Cov.ofB {p n:Nat} {σ:AE} {H:AH} {le:List (Nat×AV)} {lh:List (Nat×AO)} (r:Nat->Nat) (hp:p<=m) (hr:∀b,b<p->r b=b) (he:Bd (fun x=>ah H m r (ak (pa x.1) σ) x.2) le)
 (hh:Bd (fun x=>(∃o,H.get (r x.1)=some o/\au H m r o x.2)∨(x.2.void=true/\n<=r x.1)) lh) (hb:Kc m (lh.map Prod.fst)=true) (hi:∀x∈lh,∀y∈lh,r x.1=r y.1->x.1=y.1):Cov p σ H n (mkE le,mkH lh,m):=
 Cov.ofR r hp hr he.at (fun x hx=>⟨E6 hb _ (List.mem_map.2 ⟨x,hx,rfl⟩),hh.at x hx⟩) hi
theorem Cov.ofA {p n:Nat} {σ:AE} {H:AH} {le:List (Nat×AV)} {lh:List (Nat×AO)} (hp:p<=m) (he:Bd (fun x=>ah H m (fun b=>b) (ak (pa x.1) σ) x.2) le)
 (hh:Bd (fun x=>(∃o,H.get x.1=some o/\au H m (fun b=>b) o x.2)∨(x.2.void=true/\n<=x.1)) lh) (hb:Kc m (lh.map Prod.fst)=true):Cov p σ H n (mkE le,mkH lh,m):=
 Cov.ofB (fun b=>b) hp (fun _ _=>rfl) he hh hb fun _ _ _ _ e=>e
end
def asI (a:AV) (κ:Int->Prop):Prop:=match a with
 | .int .i64 n=>κ n
 | .si .i64 n=>κ n
 |_=>False
theorem Nu {φ:Ph} {a:AV} {v:Value} {κ:Int->Prop} (h:VR φ a v) (k:asI a κ):∃n,v= .int .i64 n/\κ n:=by
 unfold asI at k;split at k
 ·exact⟨_,h.bV,k⟩
 ·exact⟨_,h.fy,k⟩
 ·exact k.elim
theorem vs3 {φ:Ph} {a b c:AV} {vs:Array Value} (h:VRs φ [a,b,c] vs.toList):∃x y z,vs= #[x,y,z]/\VR φ a x/\VR φ b y/\VR φ c z:=by
 obtain⟨x,l1,e1,h1,h2⟩:=h.cons_inv;obtain⟨y,l2,e2,h3,h4⟩:=h2.cons_inv;obtain⟨z,l3,e3,h5,h6⟩:=h4.cons_inv;have:=h6.aM;subst this e3 e2;exact⟨x,y,z,by cases vs;simp_all,h1,h3,h5⟩
theorem vs2 {φ:Ph} {a b:AV} {vs:Array Value} (h:VRs φ [a,b] vs.toList):∃x y,vs= #[x,y]/\VR φ a x/\VR φ b y:=by
 obtain⟨x,l1,e1,h1,h2⟩:=h.cons_inv;obtain⟨y,l2,e2,h3,h4⟩:=h2.cons_inv;have:=h4.aM;subst this e2;exact⟨x,y,by cases vs;simp_all,h1,h3⟩
theorem vs1 {φ:Ph} {a:AV} {vs:Array Value} (h:VRs φ [a] vs.toList):∃x,vs= #[x]/\VR φ a x:=by
 obtain⟨x,l1,e1,h1,h2⟩:=h.cons_inv;have:=h2.aM;subst this;exact⟨x,by cases vs;simp_all,h1⟩
def ve (f:Int->Int->Int->Int) (args:List AV) (H:AH) (n:Nat) (κ:PK):Prop:=match args with
 | [x,y,z]=>asI x fun t=>asI y fun s=>asI z fun a=>κ (.si .i64 (f t s a)) H n
 |_=>False
def mkK (κ:PK):PK:=fun v H n=>κ (mk v) H n
theorem ck.mkK {φ:Ph} {h0:Hp} {κ:PK} {K:KH} (hk:ck φ h0 κ K):ck φ h0 (mkK κ) K:=fun ψ v H n u g h1 h2 h3 h4=>hk ψ _ H n u g h1 h2 h3.mk h4
theorem Ke {κ:PK} {H:AH} {n:Nat} {b c:Bool} (hk:κ (.sb b) H n) (h:b=c):κ (.sb c) H n:=by subst h;exact hk
theorem Kf {κ:PK} {H:AH} {n:Nat} {k:IntKind} {b c:Int} (hk:κ (.si k b) H n) (h:b=c):κ (.si k c) H n:=by subst h;exact hk
def qI (f:Int->Bool) (args:List AV) (H:AH) (n:Nat) (κ:PK):Prop:=match args with
 | [x]=>asI x fun t=>κ (.sb (f t)) H n
 |_=>False
def xC (f:Int->Int->Bool) (args:List AV) (H:AH) (n:Nat) (κ:PK):Prop:=match args with
 | [x,y]=>asI x fun t=>asI y fun s=>κ (.sb (f t s)) H n
 |_=>False
theorem mP {φ:Ph} {a:AV} {v:Value} {κ:Int->Prop} (h:VR φ a v) (k:asI a κ):∃n,VR φ (.si .i64 n) v/\κ n:=by
 obtain⟨n,rfl,k⟩:=Nu h k;exact⟨n,.si _ _,k⟩
theorem Be {F:FuncId->EP} (hF:aW F) {d:Nat} {f:FuncId} {g:Int->Bool} (h:∀(t:Int) (H:AH) (n:Nat) (κ:PK),κ (.sb (g t)) H n->ax F d f [.si .i64 t] H n (mkK κ)):ai f (qI g):=fun args H n κ hs φ h0 hp vs K hr hargs hk=>by
 unfold qI at hs;split at hs
 ·obtain⟨x,rfl,h1⟩:=vs1 hargs;obtain⟨t,h1,hs⟩:=mP h1 hs;exact bR (by kernel_rfl) hF d f _ H n (mkK κ) (h t H n κ hs) φ h0 hp _ K hr (.cons h1 .nil) hk.mkK
 ·exact hs.elim
theorem Kg {F:FuncId->EP} (hF:aW F) {d:Nat} {f:FuncId} {g:Int->Int->Bool} (h:∀(t s:Int) (H:AH) (n:Nat) (κ:PK),κ (.sb (g t s)) H n->ax F d f [.si .i64 t,.si .i64 s] H n (mkK κ)):ai f (xC g):=fun args H n κ hs φ h0 hp vs K hr hargs hk=>by
 unfold xC at hs;split at hs
 ·obtain⟨x,y,rfl,h1,h2⟩:=vs2 hargs;obtain⟨t,h1,hs⟩:=mP h1 hs;obtain⟨s,h2,hs⟩:=mP h2 hs;exact bR (by kernel_rfl) hF d f _ H n (mkK κ) (h t s H n κ hs) φ h0 hp _ K hr (.cons h1 (.cons h2 .nil)) hk.mkK
 ·exact hs.elim
theorem E7 {F:FuncId->EP} (hF:aW F) {d:Nat} {f:FuncId} {g:Int->Int->Int->Int} (h:∀(t s a:Int) (H:AH) (n:Nat) (κ:PK),κ (.si .i64 (g t s a)) H n->ax F d f [.si .i64 t,.si .i64 s,.si .i64 a] H n (mkK κ)):ai f (ve g):=fun args H n κ hs φ h0 hp vs K hr hargs hk=>by
 unfold ve at hs;split at hs
 ·obtain⟨x,y,z,rfl,h1,h2,h3⟩:=vs3 hargs;obtain⟨t,h1,hs⟩:=mP h1 hs;obtain⟨s,h2,hs⟩:=mP h2 hs;obtain⟨a,h3,hs⟩:=mP h3 hs;exact bR (by kernel_rfl) hF d f _ H n (mkK κ) (h t s a H n κ hs) φ h0 hp _ K hr (.cons h1 (.cons h2 (.cons h3 .nil))) hk.mkK
 ·exact hs.elim
def xD (f:Int->Int->Int) (args:List AV) (H:AH) (n:Nat) (κ:PK):Prop:=match args with
 | [x,y]=>asI x fun t=>asI y fun s=>κ (.si .i64 (f t s)) H n
 |_=>False
theorem Kh {F:FuncId->EP} (hF:aW F) {d:Nat} {f:FuncId} {g:Int->Int->Int} (h:∀(t s:Int) (H:AH) (n:Nat) (κ:PK),κ (.si .i64 (g t s)) H n->ax F d f [.si .i64 t,.si .i64 s] H n (mkK κ)):ai f (xD g):=fun args H n κ hs φ h0 hp vs K hr hargs hk=>by
 unfold xD at hs;split at hs
 ·obtain⟨x,y,rfl,h1,h2⟩:=vs2 hargs;obtain⟨t,h1,hs⟩:=mP h1 hs;obtain⟨s,h2,hs⟩:=mP h2 hs;exact bR (by kernel_rfl) hF d f _ H n (mkK κ) (h t s H n κ hs) φ h0 hp _ K hr (.cons h1 (.cons h2 .nil)) hk.mkK
 ·exact hs.elim
theorem iC.pure {g:List AV->AH->Nat->PK->Prop} (h:∀args H n κ,g args H n κ->∃v,κ v H n/\∀κ':PK,κ' v H n->g args H n κ'):iC g:=fun args H n κ hs=>by
 obtain⟨v,h1,h2⟩:=h args H n κ hs;exact⟨v,H,n,h1,.refl _,Nat.le_refl _,h2⟩
theorem iE {a:AV} {κ:Int->Prop} (h:asI a κ):∃n,κ n/\∀κ':Int->Prop,κ' n->asI a κ':=by
 unfold asI at*;split at h
 ·exact⟨_,h,fun _ k=>k⟩
 ·exact⟨_,h,fun _ k=>k⟩
 ·exact h.elim
theorem Ki {f:Int->Bool}:iC (qI f):= .pure fun args H n κ hs=>by
 unfold qI at*;split at hs
 ·obtain⟨x,h1,k1⟩:=iE hs;exact⟨_,h1,fun κ' h=>k1 _ h⟩
 ·exact hs.elim
theorem Q1 {f:Int->Int->Bool}:iC (xC f):= .pure fun args H n κ hs=>by
 unfold xC at*;split at hs
 ·obtain⟨x,h1,k1⟩:=iE hs;obtain⟨y,h2,k2⟩:=iE h1;exact⟨_,h2,fun κ' h=>k1 _ (k2 _ h)⟩
 ·exact hs.elim
theorem Q6 {f:Int->Int->Int}:iC (xD f):= .pure fun args H n κ hs=>by
 unfold xD at*;split at hs
 ·obtain⟨x,h1,k1⟩:=iE hs;obtain⟨y,h2,k2⟩:=iE h1;exact⟨_,h2,fun κ' h=>k1 _ (k2 _ h)⟩
 ·exact hs.elim
theorem Bf {f:Int->Int->Int->Int}:iC (ve f):= .pure fun args H n κ hs=>by
 unfold ve at*;split at hs
 ·obtain⟨x,h1,k1⟩:=iE hs;obtain⟨y,h2,k2⟩:=iE h1;obtain⟨z,h3,k3⟩:=iE h2;exact⟨_,h3,fun κ' h=>k1 _ (k2 _ (k3 _ h))⟩
 ·exact hs.elim
section
variable {φ:Ph} {H:AH} {n:Nat} {h0 hp:Hp}
def nV (hp:Hp) (p:Pl) (l:List AV):Prop:=∃c t fz,hp.f p.B=some (.cells c t fz)/\l.length<=p.T/\p.s+p.T<=c.size/\∀ψ,CR ψ c p.s l
def ph1 (p:Pl):Ph:=⟨fun b=>if b=0 then some p else none,fun _=>False,fun _=>False,fun _ _=>False⟩
def ph2 (p q:Pl):Ph:=⟨fun b=>if b=0 then some p else if b=1 then some q else none,fun _=>False,fun _=>False,fun _ _=>False⟩
theorem HR.ro1 (hw:Wf hp) {p:Pl} {l:List AV} (h:nV hp p l):HR (ph1 p) (mkH [(0,.ro l)]) 1 hp hp:=by
 obtain⟨c,t,fz,h1,h2,h3,h4⟩:=h;refine⟨fun b q e=>?_,fun b o e=>?_,fun b b' o o' q q' e _ hw'=>?_,fun b o e=>⟨hw b o e,e⟩,Nat.le_refl _,fun _ k=>k.elim,fun b Q e=>?_⟩;rotate_left 3
 ·have hm:=b7 e;simp only[List.mem_cons,List.not_mem_nil,or_false]at hm;injection hm with e1 e2;cases e2
 ·simp only[ph1]at e;split at e
  ·injection e with e;subst e;exact⟨by omega,hw _ _ h1⟩
  ·cases e
 ·have hm:=b7 e;simp only[List.mem_cons,List.not_mem_nil,or_false]at hm;injection hm with e1 e2;subst e1 e2;exact .inr ⟨p,_,rfl,h1,h1,c,t,fz,rfl,h2,h3,h4 _⟩
 ·have hm:=b7 e;simp only[List.mem_cons,List.not_mem_nil,or_false]at hm;injection hm with e1 e2;subst e2;cases hw'
theorem HR.ro2 (hw:Wf hp) {p q:Pl} {l m:List AV} (h:nV hp p l) (k:nV hp q m):HR (ph2 p q) (mkH [(0,.ro l),(1,.ro m)]) 2 hp hp:=by
 obtain⟨c,t,fz,h1,h2,h3,h4⟩:=h;obtain⟨c',t',fz',k1,k2,k3,k4⟩:=k
 have mem:∀b o,(mkH [(0,AO.ro l),(1,AO.ro m)]).get b=some o->(b=0/\o= .ro l)∨(b=1/\o= .ro m):=fun b o e=>by
  have hm:=b7 e;simp only[List.mem_cons,List.not_mem_nil,or_false]at hm;rcases hm with hm|hm
  ·injection hm with e1 e2;exact .inl ⟨e1,e2⟩
  ·injection hm with e1 e2;exact .inr ⟨e1,e2⟩
 refine⟨fun b r e=>?_,fun b o e=>?_,fun b b' o o' r r' e _ hw'=>?_,fun b o e=>⟨hw b o e,e⟩,Nat.le_refl _,fun _ k=>k.elim,fun b Q e=>by rcases mem b _ e with⟨_,h⟩|⟨_,h⟩<;>cases h⟩
 ·simp only[ph2]at e;split at e
  ·injection e with e;subst e;exact⟨by omega,hw _ _ h1⟩
  ·split at e
   ·injection e with e;subst e;exact⟨by omega,hw _ _ k1⟩
   ·cases e
 ·rcases mem b o e with⟨rfl,rfl⟩|⟨rfl,rfl⟩
  ·exact .inr ⟨p,_,rfl,h1,h1,c,t,fz,rfl,h2,h3,h4 _⟩
  ·exact .inr ⟨q,_,rfl,k1,k1,c',t',fz',rfl,k2,k3,k4 _⟩
 ·rcases mem b o e with⟨_,rfl⟩|⟨_,rfl⟩<;>cases hw'
theorem HR.ro0 (hw:Wf hp):HR Ph.no .nil 0 hp hp:=fB hw
theorem gM {F:FuncId->EP} (hF:aW F) {d:Nat} {f:FuncId} {args0:List AV} {H0:AH} {n0:Nat} {v:AV} (hv:flat v=true) (h:ax F d f args0 H0 n0 fun u _ _=>mkT u=mkT v)
 {vs:Array Value} {κ:PK} {K:KH} (hs:κ (mkT v) H n) (hr:HR φ H n h0 hp) (hk:ck φ h0 κ K) (hic:bW Tryz.prog f=true) {φ0:Ph} (hr0:Wf hp->HR φ0 H0 n0 hp hp) (hargs:VRs φ0 args0 vs.toList):dj Tryz.prog f vs hp K:=by
 have key:Wf hp->dj Tryz.prog f vs hp K:=fun hw=>bR (by kernel_rfl) hF d f args0 H0 n0 _ h φ0 hp hp vs K (hr0 hw) hargs fun ψ u H' n' w g _ hg hu he=>by
  have hg2:HR φ H n h0 g:=hr.grow (fun b o hb=>(hg.base b o hb).2) hg.size;have h3:VR φ (mkT v) w:=(jl (φ:=ψ) (Ba hv) (he▸hu.mkT));exact hk φ _ H n w g (PLe.refl _) hg2 h3 hs
 exact⟨hic,fun w hi=>(key hi.wf).2 w hi⟩
theorem nV.of (hr:HR φ H n h0 hp) {b o m:Nat} {l r s:List AV} {p:Pl} (hb:H.get b=some (.ro l)∨∃z,H.get b=some (.cells l z)) (hpb:φ b=some p) (hs:bp l o m=some r) (hm:r.map mk=s.map mk) (hf:s.all flat.flat1=true):nV hp ⟨p.B,p.s+o,m⟩ s:=by
 have key:∃c t fz,hp.f p.B=some (.cells c t fz)/\l.length<=p.T/\p.s+p.T<=c.size/\CR φ c p.s l:=by
  rcases hb with hb|⟨z,hb⟩
  ·obtain⟨ob,_,h2,c,t,fz,rfl,h3,h4,h5⟩:=hr.of hb hpb;exact⟨c,t,fz,h2,h3,h4,h5⟩
  ·obtain⟨ob,_,h2,c,t,fz,rfl,h3,h4,_,_,h5⟩:=hr.of hb hpb;exact⟨c,t,fz,h2,h3,h4,h5⟩
 obtain⟨c,t,fz,h1,h2,h3,h4⟩:=key;obtain⟨h5,h6⟩:=bu hs
 have hlen:s.length=m:=by
  have:=congrArg List.length hm;simp only[List.length_map]at this;rw[<-this,h6];simp;omega
 refine⟨c,t,fz,h1,by simp only;omega,by simp only;omega,fun ψ i a hi=>?_⟩;have hi2:=(List.getElem?_eq_some_iff.1 hi).1
 have h7:∃a',r[i]?=some a'/\mk a'=mk a:=by
  have e:=congrArg (fun x:List AV=>x[i]?) hm;simp only[List.getElem?_map,hi,Option.map_some]at e;rw[Option.map_eq_some_iff]at e;exact e
 obtain⟨a',h8,h9⟩:=h7
 have h10:l[o+i]?=some a':=by
  rw[h6]at h8;rw[List.getElem?_take,if_pos (by omega),List.getElem?_drop]at h8;exact h8
 obtain⟨v,h11,h12⟩:=h4 (o+i) a' h10;refine⟨v,by simp only;rw[Nat.add_assoc];exact h11,?_⟩;have h13:VR φ (mk a) v:=h9▸h12.mk;have h14:flat.flat1 a=true:=List.all_eq_true.1 hf a (List.mem_of_getElem? hi);exact ba h14 (by cases a<;>first|exact h13|cases h14)
end
end Go.Proofs.YtflehenfikoniaaGreat
namespace Go.Proofs.YtflehenfikoniaaGreat
open Go Go.RowKit Go.ChangeShapes Go.WideShapes
section
variable {H:Type} {enc:TypeId×Value->H} {P:Program} {w:World} {base:Nat} {sp:Nat->Bool} {held:Bool}
theorem lQ {φ:Ph} (s:ByteArray):VR φ (.ss (s.data.toList.map UInt8.toNat)) (.string s):=by
 have h:VR φ (.ss (s.data.toList.map UInt8.toNat)) (.string (dU (s.data.toList.map UInt8.toNat))):= .ss fun x hx=>by
  simp only[List.mem_map]at hx;obtain⟨c,_,rfl⟩:=hx;exact UInt8.toNat_lt c
 rwa [xi]at h
end
end Go.Proofs.YtflehenfikoniaaGreat
namespace Go.Proofs.YtflehenfikoniaaGreat
open Go Go.RowKit
abbrev Smp:=List (Int×Int)
def smp (L:Smp):List AV:=L.flatMap fun x=> [.si .i64 x.1,.si .i64 x.2]
theorem bf (L:Smp):(smp L).length=L.length*2:=by
 induction L with
 |nil=>rfl
 |cons x L ih=>simp only[smp,List.flatMap_cons,List.length_append,List.length_cons,List.length_nil]at ih⊢;omega
theorem b6 (L:Smp):(smp L).all flat.flat1=true:=by
 induction L with
 |nil=>rfl
 |cons x L ih=>exact ih
theorem bJ (L:Smp):(smp L).map mk=smp L:=by
 induction L with
 |nil=>rfl
 |cons x L ih=>
  show mk (.si .i64 x.1)::mk (.si .i64 x.2)::(smp L).map mk=_;rw[ih];rfl
theorem qJ:∀(L:Smp) (i:Nat),(smp L).drop (i*2)=smp (L.drop i)
 |L,0=>by simp
 | [],i+1=>by simp[smp]
 |x::L,i+1=>by
  rw[show(i+1)*2=i*2+2 from by omega];exact qJ L i
theorem DF {L:Smp} {i:Nat} (h:i<L.length):(smp L).drop (i*2)= .si .i64 L[i].1:: .si .i64 L[i].2::smp (L.drop (i+1)):=by
 rw[qJ,List.drop_eq_getElem_cons h];rfl
theorem fp {L:Smp} {i o:Nat} (h:i<L.length) (ho:o=i*2):bp (smp L) o 2=some [.si .i64 L[i].1,.si .i64 L[i].2]:=by
 subst ho;unfold bp;rw[Nat.ble_eq_true_of_le (by rw[bf];omega),DF h];rfl
theorem vf {L:Smp} {i o:Nat} (h:i<L.length) (ho:o=i*2):nth (smp L) o=some (.si .i64 L[i].1):=by
 subst ho;have:=congrArg (fun l=>l[0]?) (DF h);simp only[List.getElem?_drop,Nat.add_zero,List.getElem?_cons_zero]at this;rw[fA,this]
theorem Bg {L:Smp} {i o:Nat} (h:i<L.length) (ho:o=i*2+1):nth (smp L) o=some (.si .i64 L[i].2):=by
 subst ho;have:=congrArg (fun l=>l[1]?) (DF h);simp only[List.getElem?_drop,List.getElem?_cons_succ,List.getElem?_cons_zero]at this;rw[fA,this]
def lR (H:AH) (a:AV) (L:Smp):Prop:=(hd a= .nsl/\L=[])∨((∃b o x l r,(a= .rw b o L.length 2 x/\x≠4)/\(H.get b=some (.ro l)∨∃z,H.get b=some (.cells l z))/\bp l o (L.length*2)=some r/\r.map mk=smp L)∨∃l,a= .fr L.length 2 l/\l.map mk=smp L/\L.length≠0)∨∃b o c k l r,hd a= .sl b o L.length c k/\(H.get b=some (.ro l)∨∃z,H.get b=some (.cells l z))/\bp l o (L.length*2)=some r/\r.map mk=smp L/\L.length<=c
section
variable {φ:Ph} {H:AH} {n:Nat} {h0 hp:Hp}
theorem nV.emp (hr:HR φ H n h0 hp) {b a T:Nat} {l:List AV} {p:Pl} (hb:H.get b=some (.ro l)∨∃z,H.get b=some (.cells l z)) (hpb:φ b=some p) (ha:p.s<=a) (hT:a+T<=p.s+p.T):nV hp ⟨p.B,a,0⟩ []:=by
 rcases hb with hb|⟨z,hb⟩
 ·obtain⟨ob,_,h2,c,t,fz,rfl,h3,h4,h5⟩:=hr.of hb hpb;exact⟨c,t,fz,h2,Nat.le_refl _,(show a+0<=c.size by omega),fun ψ i a h=>by simp at h⟩
 ·obtain⟨ob,_,h2,c,t,fz,rfl,h3,h4,_,_,h5⟩:=hr.of hb hpb;exact⟨c,t,fz,h2,Nat.le_refl _,(show a+0<=c.size by omega),fun ψ i a h=>by simp at h⟩
theorem CR.mQ {ψ χ:Ph} {c:Array Value} {s:Nat} {l m:List AV} (h:CR ψ c s l) (e:l.map mk=m.map mk) (hf:m.all flat.flat1=true):CR χ c s m:=fun i a hi=>by
 have e2:=congrArg (fun x:List AV=>x[i]?) e;simp only[List.getElem?_map,hi,Option.map_some]at e2;rw[Option.map_eq_some_iff]at e2;obtain⟨a',h1,h2⟩:=e2;obtain⟨v,h3,h4⟩:=h i a' h1;have h14:flat.flat1 a=true:=List.all_eq_true.1 hf a (List.mem_of_getElem? hi);have h13:VR ψ (mk a) v:=h2▸h4.mk;exact⟨v,h3,ba h14 (by cases a<;>first|exact h13|cases h14)⟩
theorem Nv (hr:HR φ H n h0 hp) {m k:Nat} {l s:List AV} {v:Value} (hm:m≠0) (hv:VR φ (.fr m k l) v) (e:l.map mk=s.map mk) (hf:s.all flat.flat1=true):∃p C,m<=C/\nV hp p s/\p.T=m*k/\v= .slice (some ⟨p.B,p.s+0,none⟩) m C:=by
 rcases hv.rO with⟨h0,_⟩|⟨q,o,C,hq,rfl,hC,hl⟩
 ·exact absurd h0 hm
 ·obtain⟨⟨⟨_,c,t,fz,hc,hsz,hcr⟩,_⟩,_⟩:=hr.frz q hq;obtain⟨g1,g2⟩:=bu hl;have hlen:l.length=m*k:=by rw[g2];simp;omega
  have hsl:s.length=m*k:=by have:=congrArg List.length e;simp only[List.length_map]at this;omega
  have h6:CR φ c (q.s+o) l:=by rw[g2];exact CR.drop hcr
  exact⟨⟨q.B,q.s+o,m*k⟩,C,hC,⟨c,t,fz,hc,(show s.length<=m*k by omega),(show q.s+o+m*k<=c.size by omega),fun ψ=>CR.mQ h6 e hf⟩,rfl,rfl⟩
theorem lR.open (hr:HR φ H n h0 hp) {a:AV} {L:Smp} {v:Value} (hS:lR H a L) (hv:VR φ a v):(L=[]/\∀χ,VR χ .nsl v)∨∃p C,L.length<=C/\nV hp p (smp L)/\∀χ b,χ b=some p->VR χ (.sy b 0 L.length C 0) v:=by
 rcases hS with⟨ey,rfl⟩|(⟨b,o,x,l,r,⟨rfl,hx4⟩,hb,hsub,hmk⟩|⟨l,rfl,hmk,hne⟩)|⟨b,o,c,kk,l,r,ey,hb,hsub,hmk,hlc⟩
 ·have e6:=hv.hd;rw[ey]at e6;exact .inl ⟨rfl,fun χ=>by rw[e6.cP];exact .nsl⟩
 ·rcases hv.gz with⟨h1,hem⟩|⟨p,y,C,hp,rfl,h2,h3,h4,h5,_,_⟩
  ·have:=hem.nil hx4;subst this;exact .inl ⟨List.eq_nil_of_length_eq_zero h1,fun χ=> .nsl⟩
  ·by_cases hL:L=[]
   ·subst hL;exact .inr ⟨⟨p.B,y,0⟩,C,h4,nV.emp hr hb hp h3 h5,fun χ b hχ=> .sy (p:=⟨p.B,y,0⟩) (o:=0) hχ (fun _=>rfl) (fun q=>absurd rfl q)⟩
   ·have:=h2 (fun q=>hL (List.eq_nil_of_length_eq_zero q));subst this;have hro:=nV.of (s:=smp L) hr hb hp hsub (by rw[hmk,bJ]) (b6 L);exact .inr ⟨⟨p.B,p.s+o,L.length*2⟩,C,h4,hro,fun χ b hχ=> .sy (p:=⟨p.B,p.s+o,L.length*2⟩) (o:=0) hχ (fun _=>rfl) (fun q=>absurd rfl q)⟩
 ·obtain⟨p,C,hC,hro,_,rfl⟩:=Nv hr hne hv (s:=smp L) (by rw[hmk,bJ]) (b6 L);exact .inr ⟨p,C,hC,hro,fun χ b hχ=> .sy (p:=p) (o:=0) hχ (fun _=>rfl) (fun q=>absurd rfl q)⟩
 ·have e6:=hv.hd;rw[ey]at e6;obtain⟨p,C,hpb,rfl,hC0,hC1⟩:=e6.eo
  have hlC:L.length<=C:=by
   by_cases hk0:kk=0
   ·rw[hC0 hk0];exact hlc
   ·exact Nat.le_trans hlc (hC1 hk0).1
  have hro:=nV.of (s:=smp L) hr hb hpb hsub (by rw[hmk,bJ]) (b6 L);exact .inr ⟨⟨p.B,p.s+o,L.length*2⟩,C,hlC,hro,fun χ b hχ=> .sy (p:=⟨p.B,p.s+o,L.length*2⟩) hχ (fun _=>rfl) (fun q=>absurd rfl q)⟩
end
theorem vg:∀(L:Smp) (i:Nat),(smp L).take (i*2)=smp (L.take i)
 |L,0=>by simp[smp]
 | [],i+1=>by simp[smp]
 |x::L,i+1=>by
  rw[show(i+1)*2=i*2+2 from by omega];show AV.si .i64 x.1::AV.si .i64 x.2::(smp L).take (i*2)=_;rw[vg L i];rfl
theorem Kj {L:Smp} {j:Nat} (h:j<=L.length):bp (smp L) 0 ((L.take j).length*2)=some (smp (L.take j)):=by
 have:(L.take j).length=j:=by rw[List.length_take];omega
 rw[this];unfold bp;rw[Nat.ble_eq_true_of_le (by rw[bf];omega)];simp[vg]
theorem fh (L:Smp):bp (smp L) 0 (L.length*2)=some (smp L):=bq (bf L)
def xE (B:Nat) (f:Int->Smp->AV) (args:List AV) (H:AH) (n:Nat) (κ:PK):Prop:=match args with
 | [x,l]=>asI x fun k=>∃L,lR H l L/\L.length<=B/\κ (mkT (f k L)) H n
 |_=>False
theorem Q7 {B:Nat} {f:Int->Smp->AV}:iC (xE B f):= .pure fun args H n κ hs=>by
 unfold xE at*;split at hs
 ·obtain⟨k,⟨L,h1,h2,h3⟩,k1⟩:=iE hs;exact⟨_,h3,fun κ' h=>k1 _ ⟨L,h1,h2,h⟩⟩
 ·exact hs.elim
theorem Kk {B:Nat} {F:FuncId->EP} (hF:aW F) {d:Nat} {f:FuncId} {g:Int->Smp->AV} (hic:bW Tryz.prog f=true) (hg:∀k L,flat (g k L)=true) (h0:∀k,ax F d f [.si .i64 k,.nsl] .nil 0 fun u _ _=>mkT u=mkT (g k []))
 (h1:∀k L cap,L.length<=B->ax F d f [.si .i64 k,.sl 0 0 L.length cap 0] (mkH [(0,.ro (smp L))]) 1 fun u _ _=>mkT u=mkT (g k L)):ai f (xE B g):=fun args H n κ hs φ h0' hp vs K hr hargs hk=>by
 unfold xE at hs;split at hs
 ·obtain⟨x,y,rfl,e1,e2⟩:=vs2 hargs;obtain⟨k,e1,L,hS,hL,hs2⟩:=mP e1 hs;rcases hS.open hr e2 with⟨rfl,hv⟩|⟨p,C,_,hro,hv⟩
  ·exact gM hF (hg k []) (h0 k) hs2 hr hk hic HR.ro0 (.cons (e1:VR _ (.si .i64 k) x) (.cons (hv _) .nil))
  ·exact gM hF (hg k L) (h1 k L C hL) hs2 hr hk hic (fun hw=>HR.ro1 hw hro) (.cons (by rw[e1.fy];exact .si _ _) (.cons (hv _ 0 rfl).hd .nil))
 ·exact hs.elim
def jG (k:Int):Bool:=decide (1<=k/\k<=7)
def tF (s a:Int):Bool:=decide (1<=s/\s<=1099511627776/\0<=a/\a<s)
def nW (t:Int):Bool:=decide (0<=t/\t<=1099511627776)
def iX (t s a:Int):Int:=if tF s a=true/\nW t=true/\a<=t then t-(t-a)%s else 0
def vh (b s a:Int):Int:=if tF s a=true/\nW b=true then(if b<a then a else iX b s a+s)else 0
theorem jm {t s a:Int}:0<=iX t s a/\iX t s a<=1099511627776:=by
 unfold iX;split
 ·rename_i h;simp only[tF,nW,decide_eq_true_eq]at h;have hm1:=Int.emod_nonneg (t-a) (show s≠0 by omega);have hm2:=Int.emod_add_mul_ediv (t-a) s;have hm3:=Int.mul_nonneg (show 0<=s by omega) (Int.ediv_nonneg (show 0<=t-a by omega) (show 0<=s by omega));omega
 ·omega
def po (a b:Int):Bool:=decide (0<=b/\IntKind.i64.wrap (a+b)<a∨b<0/\a<IntKind.i64.wrap (a+b))
def jH (a b:Int):Int:=if po a b=true then(if 0<b then 9223372036854775807 else-9223372036854775808)else IntKind.i64.wrap (a+b)
theorem E8:ai 149 (qI jG):=Be (d:=1) az fun t H n κ hk=>by
 repeat' (conv=>whnf
          first|refine ag.dec (fun _=>?_) (fun _=>?_)|refine ag.dh (fun _=>?_) (fun _=>?_)|refine Ke hk ?_)
 all_goals simp[jG, *]
theorem TC:ai 113 (xC tF):=Kg (d:=1) az fun s a H n κ hk=>by
 repeat' (conv=>whnf
          first|refine ag.dec (fun _=>?_) (fun _=>?_)|refine ag.dh (fun _=>?_) (fun _=>?_)|refine Ke hk ?_)
 all_goals simp[tF, *]
theorem Q8:ai 114 (qI nW):=Be (d:=1) az fun s H n κ hk=>by
 repeat' (conv=>whnf
          first|refine ag.dec (fun _=>?_) (fun _=>?_)|refine ag.dh (fun _=>?_) (fun _=>?_)|refine Ke hk ?_)
 all_goals simp[nW, *]
noncomputable def FA:FuncId->EP:=cT 113 (xC tF) (cT 114 (qI nW) (cT 149 (qI jG) evP))
theorem Qd:aW FA:=a8 (a8 (a8 az E8 Ki) Q8 Ki) TC Q1
theorem yS:ai 54 (ve iX):=E7 (d:=2) Qd fun t s a H n κ hk=>by
 repeat' (conv=>whnf
          first|refine ag.dec (fun _=>?_) (fun _=>?_)|refine ag.dh (fun _=>?_) (fun _=>?_)|refine ag.sb (fun _=>?_) (fun _=>?_)|refine ag.nsb (fun _=>?_) (fun _=>?_)|refine And.intro ?_ ?_|refine Kf hk ?_)
 ·rename_i h1;simp[iX,tF,h1]
 ·rename_i h2 h1;simp[iX,nW,h1]
 ·rename_i h3 h2 h1;unfold iX;rw[if_neg (by omega)]
 ·intro h0;omega
 ·rename_i h3 h2 h1;rw[al (x:=t-a) (by omega) (by omega),Int.tmod_eq_emod_of_nonneg (by omega)];have hm1:=Int.emod_nonneg (t-a) (show s≠0 by omega);have hm2:=Int.emod_lt_of_pos (t-a) (show 0<s by omega);rw[al (by omega) (by omega)]
  (try simp only[iX,tF,nW,decide_eq_true_eq])
  rw[if_pos (by omega)]
noncomputable def FB:FuncId->EP:=cT 54 (ve iX) FA
theorem Qe:aW FB:=a8 Qd yS Bf
theorem Qf:ai 55 (ve vh):=E7 (d:=2) Qe fun b s a H n κ hk=>by
 repeat' (conv=>whnf
          first|refine ag.dec (fun _=>?_) (fun _=>?_)|refine ag.dh (fun _=>?_) (fun _=>?_)|refine ag.sb (fun _=>?_) (fun _=>?_)|refine ag.nsb (fun _=>?_) (fun _=>?_)|refine And.intro ?_ ?_|refine Kf hk ?_)
 ·rename_i h1;simp[vh,tF,h1]
 ·rename_i h2 h1;simp[vh,nW,h1]
 ·rename_i h3 h2 h1;simp[vh,tF,nW,h1,h2,h3]
 ·rename_i h3 h2 h1;have hb:=jm (t:=b) (s:=s) (a:=a);rw[al (by omega) (by omega)];simp[vh,tF,nW,h1,h2,h3]
noncomputable def FC:FuncId->EP:=cT 55 (ve vh) FB
theorem TD:aW FC:=a8 Qe Qf Bf
theorem kinds {k:Int} (h1:¬k<1) (h2:¬7<k):k=1∨k=2∨k=3∨k=4∨k=5∨k=6∨k=7:=by omega
def DG (a b:Int):Int:=jH a b
theorem Q9:ai 171 (xD DG):=Kh (d:=2) az fun a b H n κ hk=>by
 repeat' (conv=>whnf
          first|refine ag.dec (fun _=>?_) (fun _=>?_)|refine ag.dh (fun _=>?_) (fun _=>?_)|refine ag.sb (fun _=>?_) (fun _=>?_)|refine ag.nsb (fun _=>?_) (fun _=>?_)|refine Kf hk ?_)
 all_goals
  (try simp only[DG,jH,po,decide_eq_true_eq])
  split
  ·first|(split<;>omega)|omega
  ·omega
structure SS where
 n:Int
 sum:Int
 least:Int
 great:Int
 first:Int
 last:Int
def iY (k:Int) (s:SS):List AV:=[.si .i64 k,.si .i64 s.n,.si .i64 s.sum,.si .i64 s.least,.si .i64 s.great,.si .i64 s.first,.si .i64 s.last,.si .i64 0]
def th (k:Int) (s:SS):List AV:=[.int .i64 k,.si .i64 s.n,.si .i64 s.sum,.si .i64 s.least,.si .i64 s.great,.si .i64 s.first,.si .i64 s.last,.si .i64 0]
def E9 (s:SS):Int:=if IntKind.i64.wrap (s.great-s.least)<0 then 9223372036854775807 else IntKind.i64.wrap (s.great-s.least)
def Nw (k:Int) (s:SS):Int:=if k=1 then s.sum else if k=2 then s.least else if k=3 then s.great else if k=4 then s.n else if k=5 then s.first else if k=6 then s.last else E9 s
def pq (k:Int) (s:SS):AV:= .tup [.int .i64 (if s.n=0 then 0 else Nw k s),.bool (!decide (s.n=0))]
noncomputable def FJ:FuncId->EP:=aV 116 [] (aV 178 [] (cT 171 (xD DG) FC))
theorem Kl:aW FJ:=aq (aq (a8 TD Q9 Q6) (by kernel_rfl) (by kernel_rfl)) (by kernel_rfl) (by kernel_rfl)
theorem TE {k:Int} {s:SS} (h:s.n=0):AV.tup [.si .i64 0,.sb false]=mkT (pq k s):=by simp[pq,mkT,mk,h]
theorem Qg {k:Int} {s:SS} (h:¬s.n=0) {w:Int} (hw:Nw k s=w):AV.tup [.si .i64 w,.sb true]=mkT (pq k s):=by simp[pq,mkT,mk,h,hw]
theorem HN (k:Int) (h1:1<=k) (h2:k<=7) (s:SS):ax FJ 3 117 [.ptr 0 0] (mkH [(0,.ro (th k s))]) 1 fun u _ _=>mkT u=mkT (pq k s):=by
 obtain⟨sn,ssum,sl,sg,sf,sla⟩:=s;rcases kinds (k:=k) (by omega) (by omega)with rfl|rfl|rfl|rfl|rfl|rfl|rfl
 all_goals
  repeat' (conv=>whnf
           first|refine ag.dec (fun _=>?_) (fun _=>?_)|(refine TE ?_;assumption)|(refine Qg ?_ rfl;assumption)|(refine Qg ?_ (w:=_) ?_))
  all_goals first
   |assumption
   |(show E9 _=_
     unfold E9
     first|rw[if_pos (by assumption)]|rw[if_neg (by assumption)])
def Nx (H:AH) (b:Nat) (k:Int) (s:SS):Prop:=∃l,(H.get b=some (.ro l)∨∃z,H.get b=some (.cells l z))/\l.map mk=iY k s
def natVal (args:List AV) (H:AH) (n:Nat) (κ:PK):Prop:=match args with
 | [a]=>(a= .nil/\κ (.tup [.si .i64 0,.sb false]) H n)∨∃k s b,a= .ptr b 0/\Nx H b k s/\1<=k/\k<=7/\κ (mkT (pq k s)) H n
 |_=>False
theorem Ny:iC natVal:= .pure fun args H n κ hs=>by
 unfold natVal at*;split at hs
 ·rcases hs with⟨h1,h2⟩|⟨k,s,b,h1,h2,h3,h4,h5⟩
  ·exact⟨_,h2,fun κ' h=> .inl ⟨h1,h⟩⟩
  ·exact⟨_,h5,fun κ' h=> .inr ⟨k,s,b,h1,h2,h3,h4,h⟩⟩
 ·exact hs.elim
theorem HO:ax FJ 3 117 [.nil] .nil 0 fun u _ _=>mkT u=mkT (.tup [.int .i64 0,.bool false]):=by
 conv=>whnf
 rfl
theorem Nz:ai 117 natVal:=fun args H n κ hs φ h0 hp vs K hr hargs hk=>by
 unfold natVal at hs;split at hs
 ·obtain⟨x,rfl,h1⟩:=vs1 hargs;rcases hs with⟨rfl,h2⟩|⟨k,s,b,rfl,⟨l,hb,hl⟩,h3,h4,h5⟩
  ·exact gM (v:= .tup [.int .i64 0,.bool false]) Kl rfl HO h2 hr hk (by kernel_rfl) HR.ro0 (.cons (by rw[h1.aM];exact .nil) .nil)
  ·obtain⟨p,hpb,rfl⟩:=h1.ct;have hlen:l.length=8:=by simpa[iY]using congrArg List.length hl
   have hro:=nV.of (s:=th k s) hr hb hpb (bq hlen) (by rw[hl];rfl) rfl
   exact gM Kl (v:=pq k s) rfl (HN k h3 h4 s) h5 hr hk (by kernel_rfl) (fun hw=>HR.ro1 hw hro) (.cons (.ptr (p:=⟨p.B,p.s+0,8⟩) (b:=0) (o:=0) rfl) .nil)
 ·exact hs.elim
noncomputable def FK:FuncId->EP:=cT 117 natVal FJ
theorem TF:aW FK:=a8 Kl Nz Ny
def wR (s:SS) (v:Int):SS:=if s.n=0 then⟨IntKind.i64.wrap (s.n+1),DG s.sum v,min v v,max v v,v,v⟩else⟨IntKind.i64.wrap (s.n+1),DG s.sum v,min s.least v,max s.great v,s.first,v⟩
def ss0:SS:=⟨0,0,0,0,0,0⟩
def nr (L:Smp):SS:=L.foldl (fun s x=>wR s x.2) ss0
theorem xF {L:Smp} {i:Nat} (h:i<L.length):nr (L.take (i+1))=wR (nr (L.take i)) L[i].2:=by
 unfold nr;rw[List.take_succ_eq_append_getElem h,List.foldl_append];rfl
def yT (k:Int) (L:Smp):Int:=if jG k=true then(if(nr L).n=0 then 0 else Nw k (nr L))else 0
def NA (k:Int) (L:Smp):Bool:=jG k&&!decide ((nr L).n=0)
def ti (k:Int) (L:Smp):AV:= .tup [.int .i64 (yT k L),.bool (NA k L)]
theorem xG {k:Int} {L:Smp} (h:jG k=true):ti k L=pq k (nr L):=by simp[ti,yT,NA,pq,h]
theorem xH {k:Int} {L:Smp} (h:jG k=false):ti k L= .tup [.int .i64 0,.bool false]:=by simp[ti,yT,NA,h]
noncomputable def DH (k:Int) (L:Smp) (cap i:Nat):AE×AH:=(mkE [(6,.ptr 1 0),(15,.sl 0 0 L.length cap 0),(16,.si .i64 L.length),(17,.si .i64 i)],mkH [(0,.ro (smp L)),(1,.cells (iY k (nr (L.take i))) true)])
theorem vi {k:Int} {L:Smp} {cap i p n:Nat} {σ:AE} {H:AH} {l:List AV} (hp:p<=2) (e6:ak (pa 6) σ= .ptr 1 0) (e15:mk (ak (pa 15) σ)= .sy 0 0 L.length cap 0) (e16:mk (ak (pa 16) σ)= .si .i64 L.length) (e17:mk (ak (pa 17) σ)= .si .i64 i)
 (h0:H.get 0=some (.ro (smp L))) (h1:H.get 1=some (.cells l true)) (h2:l.map mk=iY k (nr (L.take i))):Cov p σ H n ((DH k L cap i).1,(DH k L cap i).2,2):=by
 refine Cov.of (fun b=>b) hp (fun b hb=>rfl) ?_ ?_ ?_
 ·intro x hx;simp only[List.mem_cons,List.not_mem_nil,or_false]at hx;rcases hx with rfl|rfl|rfl|rfl
  ·exact .ptr (by decide) e6
  ·exact .sl (by decide) e15
  ·exact .int e16
  ·exact .int e17
 ·intro x hx;simp only[List.mem_cons,List.not_mem_nil,or_false]at hx;rcases hx with rfl|rfl
  ·exact⟨by simp,_,h0,au.Bb (b6 L) rfl⟩
  ·exact⟨by simp,_,h1,au.bz rfl h2 (fun q=>q)⟩
 ·intro x hx y hy;simp only[List.mem_cons,List.not_mem_nil,or_false]at hx hy;rcases hx with rfl|rfl<;>rcases hy with rfl|rfl<;>exact fun q=>q
noncomputable def yU (L:Smp) (cap i:Nat):AE×AH:=(mkE [(6,.nil),(15,.sl 0 0 L.length cap 0),(16,.si .i64 L.length),(17,.si .i64 i)],mkH [(0,.ro (smp L))])
theorem xI {L:Smp} {cap i p n:Nat} {σ:AE} {H:AH} (hp:p<=1) (e6:ak (pa 6) σ= .nil) (e15:mk (ak (pa 15) σ)= .sy 0 0 L.length cap 0) (e16:mk (ak (pa 16) σ)= .si .i64 L.length) (e17:mk (ak (pa 17) σ)= .si .i64 i)
 (h0:H.get 0=some (.ro (smp L))):Cov p σ H n ((yU L cap i).1,(yU L cap i).2,1):=by
 refine Cov.of (fun b=>b) hp (fun b hb=>rfl) ?_ ?_ ?_
 ·intro x hx;simp only[List.mem_cons,List.not_mem_nil,or_false]at hx;rcases hx with rfl|rfl|rfl|rfl
  ·exact .flat rfl (congrArg mk e6)
  ·exact .sl (by decide) e15
  ·exact .int e16
  ·exact .int e17
 ·intro x hx;simp only[List.mem_cons,List.not_mem_nil,or_false]at hx;subst hx;exact⟨by simp,_,h0,au.Bb (b6 L) rfl⟩
 ·intro x hx y hy;simp only[List.mem_cons,List.not_mem_nil,or_false]at hx hy;subst hx hy;exact fun q=>q
theorem xJ {k:Int} (h:jG k=true):1<=k/\k<=7:=by simpa only[jG,decide_eq_true_eq]using h
theorem Km (k:Int) (L:Smp) (cap:Nat) (hL:L.length<=9223372036854775807):ax FK 3 56 [.si .i64 k,.sl 0 0 L.length cap 0] (mkH [(0,.ro (smp L))]) 1 fun u _ _=>mkT u=mkT (ti k L):=by
 conv=>whnf
 refine ag.nsb (fun hr=>?_) (fun hr=>?_)
 ·conv=>whnf
  refine aS.mk (_root_.Fin (L.length+1)) 1 (fun a=>yU L cap a.val) (fun a=>L.length-a.val) 0 ?_ ?_
  ·exact xI (i:=0) (by decide) rfl rfl rfl rfl rfl
  ·intro⟨i,hi⟩
   conv=>whnf
   refine ag.dec (fun h1=>?_) (fun h1=>?_)
   ·have h2:i<L.length:=Int.ofNat_lt.1 h1;have hw:IntKind.i64.wrap ((i:Int)+1)=((i+1:Nat):Int):=by rw[al (by omega) (by omega)];omega
    conv=>whnf
    refine Idx.mk i rfl h2 ?_
    conv=>whnf
    refine ay (fp h2 (by show 0+i*2=i*2;omega)) ?_;have hlt:L.length-(i+1)<L.length-i:=by omega
    conv=>whnf
    exact⟨⟨i+1,by omega⟩,hlt,xI (Nat.le_refl 1) rfl rfl rfl (congrArg (AV.si IntKind.i64) hw) rfl⟩
   ·conv=>whnf
    refine .inl ⟨rfl,?_⟩
    conv=>whnf
    exact(show mkT _=AV.tup [.si .i64 0,.sb false] from rfl).trans (by rw[xH hr];rfl)
 ·have hk:=xJ hr
  conv=>whnf
  refine aS.mk (_root_.Fin (L.length+1)) 2 (fun a=>DH k L cap a.val) (fun a=>L.length-a.val) 0 ?_ ?_
  ·exact vi (i:=0) (by decide) rfl rfl rfl rfl rfl rfl rfl
  ·intro⟨i,hi⟩
   conv=>whnf
   refine ag.dec (fun h1=>?_) (fun h1=>?_)
   ·have h2:i<L.length:=Int.ofNat_lt.1 h1;have hw:IntKind.i64.wrap ((i:Int)+1)=((i+1:Nat):Int):=by rw[al (by omega) (by omega)];omega
    conv=>whnf
    refine Idx.mk i rfl h2 ?_
    conv=>whnf
    refine ay (fp h2 (by show 0+i*2=i*2;omega)) ?_;have hlt:L.length-(i+1)<L.length-i:=by omega
    conv=>whnf
    refine ag.dh (fun h3=>absurd (show(0:Int)<k by omega) h3) (fun h3=>?_)
    conv=>whnf
    refine ag.dec (fun h4=>?_) (fun h4=>?_)
    ·conv=>whnf
     refine⟨⟨i+1,by omega⟩,hlt,vi (l:=_) (Nat.le_succ 1) rfl rfl rfl (congrArg (AV.si IntKind.i64) hw) rfl rfl ?_⟩;exact Eq.trans rfl (congrArg (iY k) ((xF h2).trans (if_pos h4)).symm)
    ·conv=>whnf
     refine⟨⟨i+1,by omega⟩,hlt,vi (l:=_) (Nat.le_succ 1) rfl rfl rfl (congrArg (AV.si IntKind.i64) hw) rfl rfl ?_⟩;exact Eq.trans rfl (congrArg (iY k) ((xF h2).trans (if_neg h4)).symm)
   ·conv=>whnf
    have h2:i=L.length:=by have:¬(i:Int)<L.length:=h1;omega
    subst h2;refine .inr ⟨k,nr (L.take L.length),1,rfl,⟨_,.inr ⟨_,rfl⟩,rfl⟩,hk.1,hk.2,?_⟩
    conv=>whnf
    rw[List.take_length];rw[xG hr];rfl
theorem Kn (k:Int):ax FK 3 56 [.si .i64 k,.nsl] .nil 0 fun u _ _=>mkT u=mkT (ti k []):=by
 conv=>whnf
 refine ag.nsb (fun hr=>?_) (fun hr=>?_)
 ·conv=>whnf
  refine aS.roll 1 ?_
  conv=>whnf
  refine .inl ⟨rfl,?_⟩
  conv=>whnf
  exact(show mkT _=AV.tup [.si .i64 0,.sb false] from rfl).trans (by rw[xH hr];rfl)
 ·have hk:=xJ hr
  conv=>whnf
  refine aS.roll 1 ?_
  conv=>whnf
  refine .inr ⟨k,ss0,0,rfl,⟨_,.inr ⟨_,rfl⟩,rfl⟩,hk.1,hk.2,?_⟩
  conv=>whnf
  exact(show mkT _=mkT (pq k ss0) from rfl).trans (congrArg mkT (xG (L:=[]) hr).symm)
theorem Ra:ai 56 (xE 9223372036854775807 ti):=Kk TF (by kernel_rfl) (fun k L=>rfl) Kn Km
end Go.Proofs.YtflehenfikoniaaGreat
namespace Go.Proofs.YtflehenfikoniaaGreat
open Go Go.RowKit Go.ChangeShapes Go.WideShapes
def aN (x:Int):Prop:= -9223372036854775808<=x/\x<=9223372036854775807
section
variable {H:Type} {enc:TypeId×Value->H} {P:Program} {W:World} {sp:Nat->Bool} {held:Bool}
theorem NB {b off:Nat} {c:Array Value} {u:TypeId} {fz:Nat×Nat} (hb:W.heap[b]?=some (.cells c u fz)) {i:Nat} {v:Value} (h:W.cell? ((⟨b,off,none⟩:Addr).add i)=some v):c[off+i]?=some v:=by
 have e:(⟨b,off,none⟩:Addr).add i=⟨b,off+i,none⟩:=by
  unfold Addr.add;split
  ·rename_i h0;subst h0;rfl
  ·rfl
 rw[e]at h;unfold World.cell? at h;simp only[hb]at h;simpa using h
end
theorem DI {F:FuncId->EP} (hF:aW F) {d:Nat} {f:FuncId} {args:List AV} {H0:AH} {n0:Nat} {φ0:Ph} {vs:Array Value} (he:ax F d f args H0 n0 fun v _ _=>v= .bool true∨v= .sb true) (w:World)
 (hr0:HR φ0 H0 n0 (gH w) (gH w)) (hargs:VRs φ0 args vs.toList):Calls Tryz.prog f vs w fun e w'=>e= .returned (.bool true)/\Below w.heap.size w w':=by
 have hs:=bR (by kernel_rfl) hF d f args H0 n0 _ he _ (gH w) (gH w) vs (fun v g=>v= .bool true/\(gH w).n<=g.n/\∀b o,(gH w).f b=some o->g.f b=some o) hr0 hargs
  (fun ψ v H n u g _ hg hu hv=>⟨by rcases hv with rfl|rfl;exact hu.bQ;exact hu.jE,hg.size,fun b o hb=>(hg.base b o hb).2⟩)
 refine(hs.2 w (Du w)).mono fun e' w' ⟨v,g,h1,h2,h3,h4,h5,h6⟩=>?_
 subst h1 h4;refine⟨rfl,h3.1,h3.2.1,h3.2.2,?_,fun b hb=>?_⟩
 ·rw[h2.1];exact h5
 ·have:=h6 b _ (show(gH w).f b=some w.heap[b] from Array.getElem?_eq_getElem hb);rw[h2.2 b _ this,Array.getElem?_eq_getElem hb]
end Go.Proofs.YtflehenfikoniaaGreat
namespace Go.Proofs.YtflehenfikoniaaGreat
open Go Go.RowKit
section
variable {φ ψ:Ph} {H:AH} {n:Nat} {h0 h hp:Hp}
theorem HR.add (hr:HR φ H n h0 h) {q:Pl} {o:AO} {ob:Obj} (hq0:h0.f q.B=none) (hqn:q.B<h.n) (hq:h.f q.B=some ob) (ho:OR (ez φ n q) q o ob) (hw:o.own=true) (hfr:∀b o p,H.get b=some o->φ b=some p->o.own=true->p.B≠q.B) (hfz:∀z,φ.z z->q.B≠z.B) (d:Nat) (hsp:∀b Q,H.get b=some (.sep Q)->¬φ.s b q.B):HR (ez φ n q) (H.set (some o) d n) (n+1) h0 h:=by
 have nosep:∀x Q,(H.set (some o) d n).get x=some (.sep Q)->H.get x=some (.sep Q):=fun x Q hx=>by
  rcases PM.aj d H n x _ hx with⟨_,h2⟩|⟨_,h2⟩
  ·injection h2 with h2;subst h2;exact ho.elim
  ·exact h2
 refine⟨fun x r hx=>?_,fun x r hx=>?_,fun x y r r' px py hx hy hwx hwy hpx hpy e=>?_,hr.base,hr.size,fun z hz=>⟨⟨FzR.mono (hr.ple _).z (hr.frz z hz).1.1,(hr.frz z hz).1.2⟩,fun y oy py hy hwy hpy=>?_⟩,hr.b9 (Nat.le_refl _) (fun x Q hx=>⟨nosep x Q hx,rfl⟩) (fun _ h=>h) (fun _ h=> .inl h) (fun _ _ _ _ _=>rfl) fun b' o1 p' e1 e2 e3=>?_⟩;rotate_left 4
 ·rcases PM.aj d H n b' o1 e1 with⟨rfl,_⟩|⟨h1,h2⟩
  ·rw[bw]at e3;injection e3 with e3;subst e3;exact .inr (.inr hsp)
  ·simp only[ez,if_neg h1]at e3;exact .inl ⟨b',o1,p',h2,e2,e3,rfl⟩
 ·simp only[ez]at hx;split at hx
  ·injection hx with hx;subst hx;exact⟨by omega,hqn⟩
  ·have:=hr.dom x r hx;omega
 ·rcases PM.aj d _ n x r hx with⟨rfl,h2⟩|⟨h1,h2⟩
  ·injection h2 with h2;subst h2;exact .inr ⟨_,ob,bw _ _ _,by rw[AO.bA hw];exact hq0,hq,ho⟩
  ·rcases hr.live x r h2 with⟨hv,hv2⟩|⟨px,obx,h5,h6,h7,h8⟩
   ·exact .inl ⟨by simp only[ez,if_neg h1];exact hv,hv2⟩
   exact .inr ⟨px,obx,hr.ple _ _ _ h5,h6,h7,h8.mono (hr.ple _)⟩
 ·have cs:∀z r pz,(H.set (some o) d n).get z=some r->ez φ n q z=some pz->(z=n/\pz=q)∨(z≠n/\H.get z=some r/\φ z=some pz):=fun z r pz hz hpz=>by
   rcases PM.aj d _ n z r hz with⟨rfl,_⟩|⟨h1,h2⟩
   ·rw[bw]at hpz;injection hpz with hpz;exact .inl ⟨rfl,hpz.symm⟩
   ·simp only[ez,if_neg h1]at hpz;exact .inr ⟨h1,h2,hpz⟩
  rcases cs x r px hx hpx with⟨a1,a2⟩|⟨a1,a2,a3⟩<;>rcases cs y r' py hy hpy with⟨b1,b2⟩|⟨b1,b2,b3⟩
  ·omega
  ·exact(hfr y r' py b2 b3 hwy (by rw[<-e,a2])).elim
  ·exact(hfr x r px a2 a3 hwx (by rw[e,b2])).elim
  ·exact hr.inj x y r r' px py a2 b2 hwx hwy a3 b3 e
 ·rcases PM.aj d _ n y oy hy with⟨rfl,h2⟩|⟨h1,h2⟩
  ·rw[bw]at hpy;injection hpy with hpy;subst hpy;exact hfz z hz
  ·simp only[ez,if_neg h1]at hpy;exact(hr.frz z hz).2 y oy py h2 hwy hpy
def Fa (W:AV->AV) (R:Smp) (H:AH) (n:Nat) (κ:PK):Prop:=(H.get n=none/\n<1000000)/\κ (W (.rw n 0 R.length 2 0)) (H.set (some (.cells (smp R) true)) aa n) (n+1)
def lb (R:Smp) (u:AV) (H':AH):Prop:=(R=[]/\hd u= .nsl)∨(R≠[]/\∃b c k l,hd u= .sl b 0 R.length c k/\R.length<=c/\H'.get b=some (.cells l true)/\R.length*2<=l.length/\(l.take (R.length*2)).map mk=smp R/\(k=2∨k=0/\c*2<=l.length))∨∃b o x l r,u= .rw b o R.length 2 x/\x<2/\H'.get b=some (.cells l true)/\bp l o (R.length*2)=some r/\r.map mk=smp R
theorem HR.yV (hr:HR φ H n h0 hp) {o:AO} (ho:o.void=true):HR φ (H.set (some o) aa n) (n+1) h0 hp:=by
 have hno:φ n=none:=by
  cases hq:φ n with
  |none=>rfl
  |some p=>exact absurd (hr.dom n p hq).1 (Nat.lt_irrefl _)
 refine⟨fun b p hb=>⟨Nat.lt_succ_of_lt (hr.dom b p hb).1,(hr.dom b p hb).2⟩,fun b q hb=>?_,fun x y q q' px py hx hy hwx hwy hpx hpy ee=>?_,hr.base,hr.size,fun z hz=>⟨(hr.frz z hz).1,fun y oy py hy hwy hpy=>?_⟩,hr.b9 (Nat.le_refl _) (fun x Q hx=>?_) (fun _ h=>h) (fun _ h=> .inl h) (fun _ _ _ _ _=>rfl) fun b' o1 p' e1 e2 e3=>?_⟩;rotate_left 3
 ·rcases PM.aj aa _ n x _ hx with⟨_,h2⟩|⟨_,h2⟩
  ·injection h2 with h2;subst h2;cases ho
  ·exact⟨h2,rfl⟩
 ·rcases PM.aj aa _ n b' o1 e1 with⟨rfl,_⟩|⟨_,h2⟩
  ·rw[hno]at e3;cases e3
  ·exact .inl ⟨b',o1,p',h2,e2,e3,rfl⟩
 rotate_left 2
 ·rcases PM.aj _ _ n y oy hy with⟨rfl,_⟩|⟨_,h2⟩
  ·rw[hno]at hpy;cases hpy
  ·exact(hr.frz z hz).2 y oy py h2 hwy hpy
 ·rcases PM.aj aa _ n b q hb with⟨rfl,h2⟩|⟨_,h2⟩
  ·injection h2 with h2;subst h2;exact .inl ⟨hno,AO.EX ho⟩
  ·exact hr.live b q h2
 ·have old:∀z r pz,(H.set (some o) aa n).get z=some r->φ z=some pz->H.get z=some r:=fun z r pz hz hpz=>by
   rcases PM.aj aa _ n z r hz with⟨rfl,_⟩|⟨_,h2⟩
   ·rw[hno]at hpz;cases hpz
   ·exact h2
  exact hr.inj x y q q' px py (old x q px hx hpx) (old y q' py hy hpy) hwx hwy hpx hpy ee
theorem vj {H':AH} {n':Nat} {g:Hp} {R:Smp} {r:AV} {w:Value} (hr:HR φ H n h0 hp) (hg:HR ψ H' n' hp g) (hu:VR ψ r w) (he:lb R r H'):∃χ,PLe φ χ/\HR χ (H.set (some (.cells (smp R) true)) aa n) (n+1) h0 g/\VR χ (.rw n 0 R.length 2 0) w:=by
 have hg2:HR φ H n h0 g:=hr.grow (fun b o hb=>(hg.base b o hb).2) hg.size
 have core:∀(q:Pl) (l r:List AV) (b o a C:Nat),H'.get b=some (.cells l true)->ψ b=some q->R.length<=C->q.s<=a->a+C*2<=q.s+q.T->(R≠[]->a=q.s+o/\bp l o (R.length*2)=some r/\r.map mk=smp R)->w= .slice (some ⟨q.B,a,none⟩) R.length C->∃χ,PLe φ χ/\HR χ (H.set (some (.cells (smp R) true)) aa n) (n+1) h0 g/\VR χ (.rw n 0 R.length 2 0) w:=by
  intro q l r b o a C hb hqb hRC ha1 ha2 hsub hw;subst hw;obtain⟨ob,hq0,hq1,hor⟩:=hg.of hb hqb;have hq0:hp.f q.B=none:=hq0
  have hh0:h0.f q.B=none:=by
   cases hx:h0.f q.B with
   |none=>rfl
   |some o=>have:=(hr.base _ _ hx).2;rw[hq0]at this;cases this
  obtain⟨cc,t,fz,rfl,o1,o2,o3,o4,o5⟩:=hor
  have hor':OR (ez φ n ⟨q.B,a,C*2⟩) ⟨q.B,a,C*2⟩ (.cells (smp R) true) (.cells cc t fz):=by
   have hfree:qk fz a (C*2):=o3.sub (by omega);refine⟨cc,t,fz,rfl,by rw[bf];simp only;omega,(show a+C*2<=cc.size by omega),hfree,o4,?_⟩;by_cases hR:R=[]
   ·subst hR;exact fun i a hi=>by simp[smp]at hi
   ·obtain⟨rfl,h1,h2⟩:=hsub hR;obtain⟨h3,h4⟩:=bu h1;have o6:CR ψ cc (q.s+o) r:=by subst h4;exact CR.drop o5
    exact CR.mQ o6 (by rw[h2,bJ]) (b6 R)
  have hnew:=hg2.add (q:=⟨q.B,a,C*2⟩) hh0 (hg.dom _ _ hqb).2 hq1 hor' rfl (fun b' o' p' e1 e2 _ e3=>by
   obtain⟨ob2,_,f2,_⟩:=hr.of e1 e2;rw[e3,hq0]at f2;cases f2) (fun z hz e=>by
   obtain⟨_,c,t,fz,f2,_⟩:=(hr.frz z hz).1.1;have e:q.B=z.B:=e;rw[<-e,hq0]at f2;cases f2) aa fun b' Q e1 e2=>by
   obtain⟨ob2,f2⟩:=Q.ex _ _ _ _ (hr.sep b' Q e1).1 e2;rw[hq0]at f2;cases f2
  exact⟨_,hr.ple _,hnew,.rw (p:=⟨q.B,a,C*2⟩) (bw _ _ _) (fun _=>rfl) (Nat.le_refl _) hRC (Nat.le_refl _)⟩
 have none:R=[]->w= .slice none 0 0->∃χ,PLe φ χ/\HR χ (H.set (some (.cells (smp R) true)) aa n) (n+1) h0 g/\VR χ (.rw n 0 R.length 2 0) w:=fun h1 h2=>by
  subst h1 h2;exact⟨φ,.refl _,hg2.yV rfl,.rwn⟩
 rcases he with⟨h1,e1⟩|⟨h1,b,c,k,l,e1,hc,hb,hlen,hl,hk⟩|⟨b,o,x,l,r',e1,hx2,hb,hsub,hmk⟩
 ·have:=hu.hd;rw[e1]at this;exact none h1 this.cP
 ·have hu:=hu.hd;rw[e1]at hu;obtain⟨q,C,hqb,rfl,hC0,hC⟩:=hu.eo
  have hT:R.length<=C/\C*2<=q.T:=by
   rcases hk with rfl|⟨rfl,hk⟩
   ·obtain⟨hC1,hC2⟩:=hC (by decide);exact⟨by omega,by omega⟩
   ·have:=hC0 rfl
    have:=hg.room _ _ _ hb hqb;simp only[AO.size]at this;exact⟨by omega,by omega⟩
  refine core q l (l.take (R.length*2)) b 0 q.s C hb hqb hT.1 (Nat.le_refl _) (by omega) (fun _=>⟨rfl,?_,hl⟩) rfl
  unfold bp;rw[Nat.zero_add,Nat.ble_eq_true_of_le hlen];rfl
 ·rw[e1]at hu;rcases hu.gz with⟨h1,h2⟩|⟨q,a,C,hqb,rfl,h2,h3,h4,_,h5,_⟩
  ·exact none (List.eq_nil_of_length_eq_zero h1) (h2.nil (by omega))
  ·exact core q l r' b o a C hb hqb h4 h3 (h5 hx2) (fun hR=>⟨h2 (fun q=>hR (List.eq_nil_of_length_eq_zero q)),hsub,hmk⟩) rfl
theorem HQ {F:FuncId->EP} (hF:aW F) {d:Nat} {f:FuncId} {args0:List AV} {H0:AH} {n0:Nat} {R:Smp} {P:AV->AH->Prop} (hP:∀u H',P u H'->lb R u H') (hrun:ax F d f args0 H0 n0 fun u H' _=>P u H')
 {vs:Array Value} {κ:PK} {K:KH} (hs:Fa (fun r=>r) R H n κ) (hr:HR φ H n h0 hp) (hk:ck φ h0 κ K) (hic:bW Tryz.prog f=true) {φ0:Ph} (hr0:Wf hp->HR φ0 H0 n0 hp hp) (hargs:VRs φ0 args0 vs.toList):dj Tryz.prog f vs hp K:=by
 have key:Wf hp->dj Tryz.prog f vs hp K:=fun hw=>bR (by kernel_rfl) hF d f args0 H0 n0 _ hrun φ0 hp hp vs K (hr0 hw) hargs fun ψ u H' n' w g _ hg hu he=>by
  have hg2:HR φ H n h0 g:=hr.grow (fun b o hb=>(hg.base b o hb).2) hg.size;obtain⟨χ,h3,h4,h5⟩:=vj hr hg hu (hP _ _ he);exact hk χ _ _ _ _ g h3 h4 h5 hs.2
 exact⟨hic,fun w hi=>(key hi.wf).2 w hi⟩
theorem lb.rw {R:Smp} {b o x:Nat} {l r:List AV} {H':AH} {u:AV} (h1:u= .rw b o R.length 2 x) (h2:H'.get b=some (.cells l true)) (h3:bp l o (R.length*2)=some r) (h4:r.map mk=smp R) (hx:x<2:=by decide):lb R u H':= .inr (.inr ⟨b,o,x,l,r,h1,hx,h2,h3,h4⟩)
end
section
variable {φ ψ:Ph} {H:AH} {n:Nat} {h0 hp:Hp}
def TG (e:Int) (r:AV):AV:= .tup [r,.si .i64 e]
def Ko (R:Smp) (e:Int) (u:AV) (H':AH):Prop:=∃r w,u= .tup [r,w]/\mk w= .si .i64 e/\lb R r H'
theorem Kp {a b c d:AV} {v:Value} {χ:Ph} (h:VR ψ (.tup [a,b]) v) (hb:mk b=d) (hd:flat.flat1 d=true):∃x y,v= .tuple #[x,y]/\VR ψ a x/\(VR χ c x->VR χ (.tup [c,d]) v):=by
 obtain⟨cs,rfl,h1⟩:=h.eQ;obtain⟨x,y,rfl,h2,h3⟩:=vs2 h1;exact⟨x,y,rfl,h2,fun hc=> .tup (.cons hc (.cons (ba hd (hb▸h3.mk)) .nil))⟩
theorem HS {F:FuncId->EP} (hF:aW F) {d:Nat} {f:FuncId} {args0:List AV} {H0:AH} {n0:Nat} {R:Smp} {e:Int} {P:AV->AH->Prop} (hP:∀u H',P u H'->Ko R e u H') (hrun:ax F d f args0 H0 n0 fun u H' _=>P u H')
 {vs:Array Value} {κ:PK} {K:KH} (hs:Fa (TG e) R H n κ) (hr:HR φ H n h0 hp) (hk:ck φ h0 κ K) (hic:bW Tryz.prog f=true) {φ0:Ph} (hr0:Wf hp->HR φ0 H0 n0 hp hp) (hargs:VRs φ0 args0 vs.toList):dj Tryz.prog f vs hp K:=by
 have key:Wf hp->dj Tryz.prog f vs hp K:=fun hw=>bR (by kernel_rfl) hF d f args0 H0 n0 _ hrun φ0 hp hp vs K (hr0 hw) hargs fun ψ u H' n' w g _ hg hu he=>by
  have hg2:HR φ H n h0 g:=hr.grow (fun b o hb=>(hg.base b o hb).2) hg.size;obtain⟨r,w2,rfl,hw2,hn⟩:=hP _ _ he;obtain⟨x,y,rfl,h1,_⟩:=Kp (c:= .nsl) (χ:=φ) hu hw2 rfl
  obtain⟨χ,h3,h4,h5⟩:=vj hr hg h1 hn;obtain⟨x',y',e2,_,h7⟩:=Kp (c:= .rw n 0 R.length 2 0) (χ:=χ) hu hw2 rfl
  injection e2 with e2;have e3:x=x':=by have:=congrArg (fun z:Array Value=>z[0]?) e2;simpa using this
  subst e3;exact hk χ _ _ _ _ g h3 h4 (h7 h5) hs.2
 exact⟨hic,fun w hi=>(key hi.wf).2 w hi⟩
end
def mR (x:AV) (t v:Int):Prop:=∃a b,x= .agg [a,b]/\mk a= .si .i64 t/\mk b= .si .i64 v
theorem mR.open {φ:Ph} {x:AV} {t v:Int} {w:Value} (h:mR x t v) (hv:VR φ x w) (χ:Ph):VR χ (.agg [.si .i64 t,.si .i64 v]) w:=by
 obtain⟨a,b,rfl,h1,h2⟩:=h;obtain⟨cs,rfl,h3⟩:=hv.dC;obtain⟨y,z,rfl,h4,h5⟩:=vs2 h3;exact .agg (.cons (ba rfl (h1▸h4.mk)) (.cons (ba rfl (h2▸h5.mk)) .nil))
end Go.Proofs.YtflehenfikoniaaGreat
namespace Go.Proofs.YtflehenfikoniaaGreat
open Go Go.RowKit Go.ChangeShapes Go.WideShapes
inductive Kd where
 |int (k:IntKind)
 |bool
 |str
 |sl (t:TypeId)
noncomputable def tS (P:Program) (k:TypeId->Option (List Kd)):List Field->List Kd->Option (List Kd)
 | [],l=>some l
 |f::fs,l=>(match k f.type with
  |some m=>if f.offset=l.length/\m.length=P.cellsOf f.type then tS P k fs (l++m)else none
  |none=>none)
def Bh {α:Type} (m:List α):Nat->List α
 |0=> []
 |n+1=>Bh m n++m
noncomputable def yW (P:Program):Nat->TypeId->Option (List Kd)
 |0,_=>none
 |d+1,t=>(match P.underlying t with
  |some (.int k)=>some [.int k]
  |some .bool=>some [.bool]
  |some .string=>some [.str]
  |some (.slice _)=>some [.sl t]
  |some (.struct fs)=>(tS P (yW P d) fs.toList []).bind fun l=>if l.length=P.cellsOf t then some l else none
  |some (.array n e)=>(yW P d e).bind fun m=>if m.length=P.cellsOf e/\n*m.length=P.cellsOf t then some (Bh m n)else none
  |_=>none)
def Prim (Tr:TypeId->Value->Prop):Kd->Value->Prop
 | .int k,v=>∃z,v= .int k z/\(Lit.int k z).wf=true
 | .bool,v=>∃b,v= .bool b
 | .str,v=>∃s,v= .string s/\s.size<=maxLen
 | .sl t,v=>Tr t v
def jO (Tr:TypeId->Value->Prop) (ks:List Kd) (cs:List Value):Prop:=ks.length=cs.length/\∀(j:Nat) k v,ks[j]?=some k->cs[j]?=some v->Prim Tr k v
section
variable {Tr:TypeId->Value->Prop}
theorem jO.one {k:Kd} {v:Value} (h:Prim Tr k v):jO Tr [k] [v]:=⟨rfl,fun j k' v' h1 h2=>by
 cases j with
 |zero=>injection h1 with h1;injection h2 with h2;subst h1 h2;exact h
 |succ j=>simp at h1⟩
theorem jO.app {ks ms:List Kd} {cs ds:List Value} (h:jO Tr ks cs) (k:jO Tr ms ds):jO Tr (ks++ms) (cs++ds):=⟨by simp[h.1,k.1],fun j a v h1 h2=>by
 by_cases hj:j<ks.length
 ·rw[List.getElem?_append_left hj]at h1;rw[List.getElem?_append_left (by rw[<-h.1];exact hj)]at h2;exact h.2 j a v h1 h2
 ·rw[List.getElem?_append_right (by omega)]at h1;rw[List.getElem?_append_right (by rw[<-h.1];omega),<-h.1]at h2;exact k.2 _ a v h1 h2⟩
end
def TrS {H:Type} (enc:TypeId×Value->H) (P:Program) (W:World) (base:Nat) (sp:Nat->Bool) (held:Bool) (t:TypeId) (v:Value):Prop:=∃fuel x,DataW.trod enc P W base sp held fuel t [v]=some x
section
variable {H:Type} {enc:TypeId×Value->H} {P:Program} {W:World} {base:Nat} {sp:Nat->Bool} {held:Bool}
theorem qK {k:TypeId->Option (List Kd)} {cs:List Value} {n:Nat} (ih:∀t ks cs x,k t=some ks->DataW.trod enc P W base sp held n t cs=some x->jO (TrS enc P W base sp held) ks cs):∀(fs:List Field) (l r:List Kd),jO (TrS enc P W base sp held) l (cs.take l.length)->(∀f∈fs,∃x,DataW.trod enc P W base sp held n f.type ((cs.drop f.offset).take (P.cellsOf f.type))=some x)->
 tS P k fs l=some r->jO (TrS enc P W base sp held) r (cs.take r.length)
 | [],l,r,h,_,e=>by injection e with e;subst e;exact h
 |f::fs,l,r,h,hf,e=>by
  unfold tS at e;split at e
  ·rename_i m hk;split at e
   ·rename_i ho;obtain⟨ho,hm⟩:=ho;obtain⟨x,hx⟩:=hf f List.mem_cons_self;have hp:=ih _ _ _ _ hk hx;refine qK ih fs (l++m) r ?_ (fun g hg=>hf g (List.mem_cons_of_mem _ hg)) e
    have e2:cs.take (l++m).length=cs.take l.length++((cs.drop f.offset).take (P.cellsOf f.type)):=by
     rw[List.length_append,List.take_add,ho,hm]
    rw[e2];exact h.app hp
   ·cases e
  ·cases e
theorem xK {Tr:TypeId->Value->Prop} {m:List Kd} {c:Nat} {cs:List Value} (hc:m.length=c):∀n,(∀i,i<n->jO Tr m ((cs.drop (i*c)).take c))->jO Tr (Bh m n) (cs.take (n*c))
 |0,_=>⟨by simp[Bh],fun j k v h=>by simp[Bh]at h⟩
 |n+1,h=>by
  have e:cs.take ((n+1)*c)=cs.take (n*c)++(cs.drop (n*c)).take c:=by rw[Nat.add_mul,Nat.one_mul,List.take_add]
  rw[e];exact(xK hc n fun i hi=>h i (by omega)).app (h n (by omega))
theorem qL:∀(d:Nat) (t:TypeId) (ks:List Kd) (fuel:Nat) (cs:List Value) (x:DataW H×List MemPlace),yW P d t=some ks->DataW.trod enc P W base sp held fuel t cs=some x->jO (TrS enc P W base sp held) ks cs
 |0,t,ks,fuel,cs,x,h,_=>by cases h
 |d+1,t,ks,fuel,cs,x,h,hx=>by
  unfold yW at h;split at h
  ·rename_i k hu;injection h with h;subst h;obtain⟨z,rfl,_,hw⟩:=DataW.trod_int hu hx;exact .one ⟨z,rfl,hw⟩
  ·rename_i hu;injection h with h;subst h;obtain⟨b,rfl,_⟩:=DataW.trod_bool hu hx;exact .one ⟨b,rfl⟩
  ·rename_i hu;injection h with h;subst h;obtain⟨s,rfl,_,hs⟩:=DataW.trod_string hu hx;exact .one ⟨s,rfl,hs⟩
  ·rename_i e hu;injection h with h;subst h;rcases DataW.trod_slice hu hx with⟨rfl,_⟩|⟨a,len,cap,_,_,_,_,rfl,_⟩
   ·exact .one ⟨_,_,hx⟩
   ·exact .one ⟨_,_,hx⟩
  ·rename_i fs hu;obtain⟨xs,n,rfl,_,hl,hxl,hf⟩:=DataW.trod_struct hu hx;rw[Option.bind_eq_some_iff]at h;obtain⟨l,h1,h2⟩:=h;split at h2
   ·rename_i hc;injection h2 with h2;subst h2
    have:=qK (enc:=enc) (W:=W) (base:=base) (sp:=sp) (held:=held) (n:=n) (cs:=cs) (fun t ks cs x h hx=>qL d t ks n cs x h hx) fs.toList [] l ⟨by simp,fun j k v h=>by simp at h⟩ (fun f hfm=>by
     obtain⟨i,hi,e⟩:=List.mem_iff_getElem.1 hfm;have hi2:i<fs.size:=by simpa using hi
     have hg:fs[i]?=some f:=by rw[Array.getElem?_eq_getElem hi2];simpa using e
     have:=hf i f hg;rw[List.getElem?_eq_getElem (by omega)]at this;exact⟨_,this⟩) h1
    rw[hc,<-hl,List.take_length]at this;exact this
   ·cases h2
  ·rename_i n e hu;rw[Option.bind_eq_some_iff]at h;obtain⟨m,h1,h2⟩:=h;split at h2
   ·rename_i hc;obtain⟨hc1,hc2⟩:=hc;injection h2 with h2;subst h2;cases fuel with
    |zero=>simp[DataW.trod]at hx
    |succ q=>
     rw[DataW.trod_step]at hx;unfold DataW.trodStep at hx;simp only[hu]at hx;split at hx
     ·rename_i hlen;simp only[Option.map_eq_some_iff]at hx;obtain⟨ys,hy,_⟩:=hx;have hyl:=mapM_some_length hy
      have:=xK (cs:=cs) hc1 n (fun i hi=>by
       have h3:=mapM_some_get hy i i (by simp[hi]);rw[List.getElem?_eq_getElem (by rw[hyl];simpa using hi)]at h3;exact qL d e m q _ _ h1 h3)
      rw[<-hc1,hc2,<-hlen,List.take_length]at this;exact this
     ·cases hx
   ·cases h2
  ·cases h
theorem Fb {α:Type} {c:Nat}:∀(rows:List (List α)),(∀r∈rows,r.length=c)->∀i q,q<c->rows.flatten[i*c+q]?=(rows[i]?).bind (·[q]?)
 | [],_,i,q,_=>by simp
 |r::rows,h,0,q,hq=>by
  have:=h r List.mem_cons_self;rw[List.flatten_cons,Nat.zero_mul,Nat.zero_add,List.getElem?_append_left (by omega)];rfl
 |r::rows,h,i+1,q,hq=>by
  have h1:=h r List.mem_cons_self;rw[List.flatten_cons,List.getElem?_append_right (by rw[Nat.add_mul];omega),show(i+1)*c+q-r.length=i*c+q from by rw[Nat.add_mul];omega];exact Fb rows (fun x hx=>h x (List.mem_cons_of_mem _ hx)) i q hq
theorem Bi {α:Type} {c:Nat}:∀(rows:List (List α)),(∀r∈rows,r.length=c)->rows.flatten.length=rows.length*c
 | [],_=>by simp
 |r::rows,h=>by
  rw[List.flatten_cons,List.length_append,Bi rows (fun x hx=>h x (List.mem_cons_of_mem _ hx)),h r List.mem_cons_self,List.length_cons,Nat.add_mul];omega
theorem Kq {a:Addr} {v:Value} (h:W.cell? a=some v):∃c u fz,W.heap[a.block]?=some (.cells c u fz)/\a.spot=none/\c[a.off]?=some v:=by
 unfold World.cell? at h;split at h
 ·rename_i c u fz hb;split at h
  ·cases h
  ·rename_i hs;exact⟨c,u,fz,hb,by simpa using hs,h⟩
 ·cases h
theorem aN.of {z:Int} (h:(Lit.int .i64 z).wf=true):aN z:=by
 simp[Lit.wf,IntKind.min,IntKind.max,IntKind.signed,IntKind.bits]at h;unfold aN;omega
end
end Go.Proofs.YtflehenfikoniaaGreat
