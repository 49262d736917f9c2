/- Texts of our own, joined: the engine, the machine that runs code, and what is known of the functions. -/
import Derived.Test.YtflehenfikoniaaGreatRows
import Derived.WalkKit
import Derived.Deep.Quiet
import Derived.ProofKit
import Derived.Laws.StructEq
import Derived.LaidEql
import Derived.Laws.BytesArg
import Derived.Maps.RangeRun
import Derived.RangeFuncSeq
import Derived.Scope
import Derived.Laws.Strings
import Derived.Laws.Strings2
import Derived.Below
import Derived.Carry
import Derived.OpenShut
import Derived.ChangeMaps5
import Derived.Deep.Slices
import Derived.Deep.SlicePairs
import Derived.SizedLaws
import Derived.Laws.BitsAllLaws
import Derived.RangeFuncRecord
import Derived.Test.YtflehenfikoniaaGreatJd
set_option linter.unusedSimpArgs false
set_option linter.unusedVariables false
set_option maxHeartbeats 16000000
set_option maxRecDepth 100000
namespace Go.Proofs.YtflehenfikoniaaGreat
open Go Go.RowKit
abbrev Tx:=List Nat
def strs (V:List (List Nat)):List AV:=V.map fun s=> .ss s
theorem bZ (V:List (List Nat)):(strs V).all flat.flat1=true:=by simp[strs,flat.flat1]
theorem cV (V:List (List Nat)):(strs V).map mk=strs V:=by simp[strs,mk,Function.comp_def]
theorem bj (V:List (List Nat)):(strs V).length=V.length:=by simp[strs]
theorem fI {V:List (List Nat)} {i o:Nat} (h:i<V.length) (ho:o=i):nth (strs V) o=some (.ss V[i]):=by
 subst ho;rw[fA,strs,List.getElem?_map,List.getElem?_eq_getElem h];rfl
def rl (V:List (List Nat)) (i:Nat):Prop:=∀j,j+1<i->∀h:j+1<V.length,ltL (V[j]'(by omega)) V[j+1]=true
noncomputable instance (V:List (List Nat)) (i:Nat):Decidable (rl V i):=Classical.propDecidable _
noncomputable def kI (V:List (List Nat)):Bool:=decide (rl V V.length)
noncomputable def rs0 (V:List (List Nat)) (i:Nat):AE×AH:=(mkE [(0,.fr V.length 1 (strs V)),(3,.si .i64 (i))],mkH [])
theorem Gn {V:List (List Nat)} {i:Nat} {p n:Nat} {σ:AE} {H:AH} (hp:p<=0) (e0:ak (pa 0) σ= .fr V.length 1 (strs V)) (e3:mk (ak (pa 3) σ)= .si .i64 (i)):Cov p σ H n ((rs0 V i).1,(rs0 V i).2,0):=
 Cov.ofA hp ⟨ah.frE e0,.int e3,trivial⟩ trivial rfl
theorem ah.fn0 {H:AH} {m:Nat} {r:Nat->Nat} {a:AV} {f:Nat} (e:a= .fn f [] []):ah H m r a (.fn f [] []):=fun φ ψ v _ _ hv=>by
 subst e;obtain⟨xs,cs,rfl,h1,h2⟩:=hv.mF;exact .fn (by rw[h1.aM];exact .nil) (by rw[h2.aM];exact .nil)
theorem Cn (V:List (List Nat)):(strs V).all nJ=true:=by simp[strs,nJ]
theorem IH (V:List (List Nat)) (i:Nat):(strs V).drop i=strs (V.drop i):=by simp[strs,List.map_drop]
theorem II (V:List (List Nat)) (i:Nat):(strs V).take i=strs (V.take i):=by simp[strs,List.map_take]
theorem dA (W:List (List Nat)) (v:List Nat):(strs W++ [AV.ss v]).map mk=strs (W++ [v]):=by simp[strs,mk,Function.comp_def]
theorem tyT:RTy 58 58 1 16:=⟨_,_,_,rfl,rfl,(fun q h=>by cases h),rfl,rfl,rfl,rfl,by decide,by decide⟩
noncomputable def leS (a b:List Nat):Bool:=ltL a b||dp a b
theorem sw:∀(a b:List Nat),leS a b=false->leS b a=true
 | [],[],h=>by cases h
 | [],_::_,h=>by cases h
 |_::_,[],_=>rfl
 |a::x,b::y,h=>by
  unfold leS ltL dp at h⊢;by_cases e:a=b
  ·subst e;rw[Nat.beq_refl]at h⊢;exact sw x y h
  ·have e1:Nat.beq a b=false:=by cases q:Nat.beq a b;rfl;exact absurd (Nat.eq_of_beq_eq_true q) e
   have e2:Nat.beq b a=false:=by cases q:Nat.beq b a;rfl;exact absurd (Nat.eq_of_beq_eq_true q).symm e
   rw[e1]at h;rw[e2];simp only[Bool.or_false]at h⊢;have h3:¬a<b:=fun q=>by rw[(Nat.blt_eq (x:=a) (y:=b)).mpr q]at h;cases h
   exact(Nat.blt_eq (x:=b) (y:=a)).mpr (by omega)
noncomputable def bo (q:Bool):List Tx->List Tx->List Tx
 | [],B=>if q=true then B else []
 |a::A,[]=>a::A
 |a::A,b::B=>if leS a b=true then(if leS b a=true then(if q=true then b::bo q A B else bo q A B)else a::bo q A (b::B))else(if q=true then b::bo q (a::A) B else bo q (a::A) B)
termination_by A B=>A.length+B.length
decreasing_by all_goals(simp only[List.length_cons];omega)
section
variable {q:Bool}
theorem fJ (B:List Tx):bo q [] B=if q=true then B else []:=by rw[bo]
theorem fK (A:List Tx):bo q A []=A:=by cases A<;>rw[bo];split<;>rfl
theorem me {a b:Tx} (A B:List Tx) (h:leS a b=true) (k:¬leS b a=true):bo q (a::A) (b::B)=a::bo q A (b::B):=by rw[bo,if_pos h,if_neg k]
theorem mf {a b:Tx} (A B:List Tx) (h:leS a b=true) (k:leS b a=true):bo q (a::A) (b::B)=(if q=true then [b]else [])++bo q A B:=by rw[bo,if_pos h,if_pos k];split<;>rfl
theorem mg {a b:Tx} (A B:List Tx) (h:¬leS a b=true):bo q (a::A) (b::B)=(if q=true then [b]else [])++bo q (a::A) B:=by rw[bo,if_neg h];split<;>rfl
end
theorem kJ (q:Bool):∀(A B:List Tx),(bo q A B).length<=A.length+B.length
 | [],B=>by rw[fJ];split<;>simp
 |a::A,[]=>by rw[fK];simp
 |a::A,b::B=>by
  have e:∀l:List Tx,((if q=true then [b]else [])++l).length<=l.length+1:=fun l=>by split<;>simp
  by_cases h:leS a b=true
  ·by_cases k:leS b a=true
   ·have:=kJ q A B;have:=e (bo q A B);rw[mf A B h k];simp only[List.length_cons];omega
   ·have:=kJ q A (b::B);rw[me A B h k];simp only[List.length_cons]at this⊢;omega
  ·have:=kJ q (a::A) B;have h3:=e (bo q (a::A) B);rw[mg A B h];simp only[List.length_cons]at this⊢;omega
termination_by A B=>A.length+B.length
noncomputable def ms0 (A:List Tx) (B:List Tx) (O:List Tx) (f:Nat):AE×AH:=(mkE [(0,.fr A.length 1 (strs A)),(1,.fr B.length 1 (strs B)),(2,AV.fn f [] []),(7,.rw 0 0 O.length 1 0)],mkH [(0,.cells (strs (O)) true)])
theorem gm {A:List Tx} {B:List Tx} {O:List Tx} {f:Nat} {p n:Nat} {σ:AE} {H:AH} (j0:Nat) (hp:p<=0) (e0:ak (pa 0) σ= .fr A.length 1 (strs A)) (e1:ak (pa 1) σ= .fr B.length 1 (strs B)) (e2:ah H 1 (fun b=>if b=0 then j0 else b) (ak (pa 2) σ) (AV.fn f [] [])) (e7:ah H 1 (fun b=>if b=0 then j0 else b) (ak (pa 7) σ) (.rw 0 0 O.length 1 0)) (h0:(∃l,H.get j0=some (.cells l true)/\l.map mk=strs (O))∨((O)=[]/\n<=j0)):Cov p σ H n ((ms0 A B O f).1,(ms0 A B O f).2,1):=
 Cov.ofB (fun b=>if b=0 then j0 else b) (by omega) (fun b hb=>by repeat' rw[if_neg (by omega)]) ⟨ah.frE e0,ah.frE e1,e2,e7,trivial⟩ ⟨h0.elim (fun⟨l,h,g⟩=> .inl ⟨_,h,au.bz (bZ _) (by rw[g,cV]) (fun q=>q)⟩) (fun h=> .inr ⟨by rw[h.1];rfl,h.2⟩),trivial⟩ rfl (fun x hx y hy=>by simp only[List.mem_cons,List.not_mem_nil,or_false]at hx hy;subst hx hy;exact fun _=>rfl)
noncomputable def GMs:FuncId->EP:=aV 206 [] evP
theorem St:aW GMs:=aq az (by kernel_rfl) (by kernel_rfl)
def Qz (f:Nat) (q:Bool):Prop:=(f=214/\q=true)∨(f=222/\q=true)∨(f=215/\q=false)
theorem Ep (V W:List Tx) (f:Nat) (q:Bool) (hf:Qz f q) (hL:V.length+W.length<=1000000):ax GMs 3 206 [.fr V.length 1 (strs V),.fr W.length 1 (strs W),.fn f [] []] .nil 0 (cF (.fr (bo q V W).length 1 (strs (bo q V W)))):=by
 rcases hf with⟨rfl,hq⟩|⟨rfl,hq⟩|⟨rfl,hq⟩
 all_goals
  conv=>whnf
  first
  |(refine aS.mk {t:List (List Nat)×List (List Nat)×List (List Nat)//t.1.length+t.2.1.length+t.2.2.length<=V.length+W.length/\t.2.2++bo q t.1 t.2.1=bo q V W} 1 (fun t=>ms0 t.val.1 t.val.2.1 t.val.2.2 214) (fun t=>t.val.1.length+t.val.2.1.length) ⟨(V,W,[]),by simp,rfl⟩ ?_ ?_;focus exact gm (O:=[]) 0 (Nat.le_refl 0) rfl rfl (.fn0 rfl) (.iD rfl) (.inr ⟨rfl,Nat.le_refl _⟩))
  |(refine aS.mk {t:List (List Nat)×List (List Nat)×List (List Nat)//t.1.length+t.2.1.length+t.2.2.length<=V.length+W.length/\t.2.2++bo q t.1 t.2.1=bo q V W} 1 (fun t=>ms0 t.val.1 t.val.2.1 t.val.2.2 222) (fun t=>t.val.1.length+t.val.2.1.length) ⟨(V,W,[]),by simp,rfl⟩ ?_ ?_;focus exact gm (O:=[]) 0 (Nat.le_refl 0) rfl rfl (.fn0 rfl) (.iD rfl) (.inr ⟨rfl,Nat.le_refl _⟩))
  |(refine aS.mk {t:List (List Nat)×List (List Nat)×List (List Nat)//t.1.length+t.2.1.length+t.2.2.length<=V.length+W.length/\t.2.2++bo q t.1 t.2.1=bo q V W} 1 (fun t=>ms0 t.val.1 t.val.2.1 t.val.2.2 215) (fun t=>t.val.1.length+t.val.2.1.length) ⟨(V,W,[]),by simp,rfl⟩ ?_ ?_;focus exact gm (O:=[]) 0 (Nat.le_refl 0) rfl rfl (.fn0 rfl) (.iD rfl) (.inr ⟨rfl,Nat.le_refl _⟩))
  ·intro⟨(A,B,O),hl,he⟩;dsimp only at hl he;have hO:bp (strs O) 0 (O.length*1)=some (strs O):=bq (by rw[bj,Nat.mul_one]);cases A with
   |nil=>
    cases B with
    |nil=>
     conv=>whnf
     refine ag.dec (fun h1=>absurd (show(0:Int)<IntKind.i64.wrap (((0:Nat):Int)+((0:Nat):Int)) from h1) (by decide)) (fun _=>?_);have he2:O=bo q V W:=by rw[<-he,fJ];simp
     conv=>whnf
     exact cF.row rfl (congrArg List.length he2) rfl (congrArg (fun z=>(strs z).map mk) he2) (by rw[bj,Nat.mul_one]) (bZ _)
    |cons b B=>
     have hw:(0:Int)<IntKind.i64.wrap (((0:Nat):Int)+((B.length+1:Nat):Int)):=by simp only[List.length_cons,List.length_nil]at hl;rw[al (by omega) (by omega)];omega
     have hbig:(O.length+1)*16<=140737488355328:=by simp only[List.length_cons,List.length_nil]at hl;omega
     conv=>whnf
     refine ag.dec (fun _=>?_) (fun h1=>absurd hw h1)
     conv=>whnf
     refine ag.dec (fun h1=>absurd (show((0:Nat):Int)>0 from h1) (by decide)) (fun _=>?_)
     conv=>whnf
     refine ag.dec (fun _=>?_) (fun h1=>absurd (show(0:Int)<((B.length+1:Nat):Int) by omega) h1)
     conv=>whnf
     refine ag.dec (fun _=>?_) (fun h1=>absurd rfl h1)
     conv=>whnf
     refine Idx.mk 0 rfl (Nat.succ_pos _) ?_
     conv=>whnf
     refine RSl.mk 1 (B.length+1) rfl rfl (.inl rfl) (Nat.succ_le_succ (Nat.zero_le _)) (Nat.le_refl _) ?_
     conv=>whnf
     first
     |(refine bC.grow 1 16 _ _ _ _ _ _ tyT (.old rfl) rfl rfl (.rw rfl hO) hbig ?_;(conv=>whnf);refine⟨⟨([],B,O++ [b]),?_,?_⟩,?_,gm 2 (Nat.zero_le _) rfl rfl (.fn0 rfl) (ah.rw (by decide) rfl) (.inl ⟨_,rfl,dA O b⟩)⟩;(focus (simp only[List.length_cons,List.length_append,List.length_nil]at hl⊢<;>omega));(focus (show(O++ [b])++bo q [] B=_;rw[<-he,fJ,fJ];try simp[hq]));(focus (show 0+B.length<0+(B.length+1);omega)))
     |(refine⟨⟨([],B,O),?_,?_⟩,?_,gm 0 (Nat.le_refl 0) rfl rfl (.fn0 rfl) (ah.rw (by decide) rfl) (.inl ⟨_,rfl,cV O⟩)⟩;(focus (simp only[List.length_cons]at hl⊢<;>omega));(focus (show(O)++bo q [] B=_;rw[<-he,fJ,fJ];try simp[hq]));(focus (show 0+B.length<0+(B.length+1);omega)))
   |cons a A=>
    have hbig:(O.length+1)*16<=140737488355328:=by simp only[List.length_cons]at hl;omega
    cases B with
    |nil=>
     have hw:(0:Int)<IntKind.i64.wrap (((A.length+1:Nat):Int)+((0:Nat):Int)):=by simp only[List.length_cons,List.length_nil]at hl;rw[al (by omega) (by omega)];omega
     conv=>whnf
     refine ag.dec (fun _=>?_) (fun h1=>absurd hw h1)
     conv=>whnf
     refine ag.dec (fun _=>?_) (fun h1=>absurd (show(0:Int)<((A.length+1:Nat):Int) by omega) h1)
     conv=>whnf
     refine ag.dec (fun _=>?_) (fun h1=>absurd rfl h1)
     conv=>whnf
     refine ag.dec (fun h1=>absurd (show((0:Nat):Int)>0 from h1) (by decide)) (fun _=>?_)
     conv=>whnf
     refine Idx.mk 0 rfl (Nat.succ_pos _) ?_
     conv=>whnf
     refine RSl.mk 1 (A.length+1) rfl rfl (.inl rfl) (Nat.succ_le_succ (Nat.zero_le _)) (Nat.le_refl _) ?_
     conv=>whnf
     first
     |(refine bC.grow 1 16 _ _ _ _ _ _ tyT (.old rfl) rfl rfl (.rw rfl hO) hbig ?_;(conv=>whnf);refine⟨⟨(A,[],O++ [a]),?_,?_⟩,?_,gm 2 (Nat.zero_le _) rfl rfl (.fn0 rfl) (ah.rw (by decide) rfl) (.inl ⟨_,rfl,dA O a⟩)⟩;(focus (simp only[List.length_cons,List.length_append,List.length_nil]at hl⊢<;>omega));(focus (show(O++ [a])++bo q A []=_;rw[<-he,fK,fK];try simp));(focus (show A.length+0<(A.length+1)+0;omega)))
     |(refine⟨⟨(A,[],O),?_,?_⟩,?_,gm 0 (Nat.le_refl 0) rfl rfl (.fn0 rfl) (ah.rw (by decide) rfl) (.inl ⟨_,rfl,cV O⟩)⟩;(focus (simp only[List.length_cons]at hl⊢<;>omega));(focus (show(O)++bo q A []=_;rw[<-he,fK,fK];try simp));(focus (show A.length+0<(A.length+1)+0;omega)))
    |cons b B=>
     have hw:(0:Int)<IntKind.i64.wrap (((A.length+1:Nat):Int)+((B.length+1:Nat):Int)):=by simp only[List.length_cons]at hl;rw[al (by omega) (by omega)];omega
     conv=>whnf
     refine ag.dec (fun _=>?_) (fun h1=>absurd hw h1)
     conv=>whnf
     refine ag.dec (fun _=>?_) (fun h1=>absurd (show(0:Int)<((A.length+1:Nat):Int) by omega) h1)
     conv=>whnf
     refine ag.dec (fun h1=>absurd (show((B.length+1:Nat):Int)=0 from h1) (by omega)) (fun _=>?_)
     conv=>whnf
     refine Idx.mk 0 rfl (Nat.succ_pos _) ?_
     conv=>whnf
     refine Idx.mk 0 rfl (Nat.succ_pos _) ?_
     conv=>whnf
     refine ag.dec (fun _=>?_) (fun h1=>absurd (show(0:Int)<((B.length+1:Nat):Int) by omega) h1)
     conv=>whnf
     refine ag.dec (fun h1=>absurd (show((A.length+1:Nat):Int)=0 from h1) (by omega)) (fun _=>?_)
     conv=>whnf
     refine Idx.mk 0 rfl (Nat.succ_pos _) ?_
     conv=>whnf
     refine Idx.mk 0 rfl (Nat.succ_pos _) ?_
     conv=>whnf
     refine ag.sb (fun h1=>?_) (fun h1=>?_)
     ·have k1:leS a b=true:=h1
      conv=>whnf
      refine Idx.mk 0 rfl (Nat.succ_pos _) ?_
      conv=>whnf
      refine RSl.mk 1 (A.length+1) rfl rfl (.inl rfl) (Nat.succ_le_succ (Nat.zero_le _)) (Nat.le_refl _) ?_
      conv=>whnf
      refine ag.sb (fun h2=>?_) (fun h2=>?_)
      ·have k2:leS b a=true:=h2
       conv=>whnf
       refine Idx.mk 0 rfl (Nat.succ_pos _) ?_
       conv=>whnf
       refine RSl.mk 1 (B.length+1) rfl rfl (.inl rfl) (Nat.succ_le_succ (Nat.zero_le _)) (Nat.le_refl _) ?_
       conv=>whnf
       repeat(first|(refine ag.sb (fun _=>?_) (fun z=>absurd (z.symm.trans h1) (by decide));(conv=>whnf))|(refine ag.sb (fun z=>absurd (z.symm.trans h1) (by decide)) (fun _=>?_);(conv=>whnf))|(refine ag.nsb (fun _=>?_) (fun z=>absurd (z.symm.trans h1) (by decide));(conv=>whnf))|(refine ag.nsb (fun z=>absurd (z.symm.trans h1) (by decide)) (fun _=>?_);(conv=>whnf))|(refine ag.sb (fun _=>?_) (fun z=>absurd (z.symm.trans h2) (by decide));(conv=>whnf))|(refine ag.sb (fun z=>absurd (z.symm.trans h2) (by decide)) (fun _=>?_);(conv=>whnf))|(refine ag.nsb (fun _=>?_) (fun z=>absurd (z.symm.trans h2) (by decide));(conv=>whnf))|(refine ag.nsb (fun z=>absurd (z.symm.trans h2) (by decide)) (fun _=>?_);(conv=>whnf)))
       first
       |(refine bC.grow 1 16 _ _ _ _ _ _ tyT (.old rfl) rfl rfl (.rw rfl hO) hbig ?_;(conv=>whnf);refine⟨⟨(A,B,O++ [b]),?_,?_⟩,?_,gm 2 (Nat.zero_le _) rfl rfl (.fn0 rfl) (ah.rw (by decide) rfl) (.inl ⟨_,rfl,dA O b⟩)⟩;(focus (simp only[List.length_cons,List.length_append,List.length_nil]at hl⊢<;>omega));(focus (show(O++ [b])++_=_;rw[<-he,mf A B k1 k2];try simp[hq]));(focus (show A.length+B.length<(A.length+1)+(B.length+1);omega)))
       |(refine⟨⟨(A,B,O),?_,?_⟩,?_,gm 0 (Nat.le_refl 0) rfl rfl (.fn0 rfl) (ah.rw (by decide) rfl) (.inl ⟨_,rfl,cV O⟩)⟩;(focus (simp only[List.length_cons]at hl⊢<;>omega));(focus (show(O)++_=_;rw[<-he,mf A B k1 k2];try simp[hq]));(focus (show A.length+B.length<(A.length+1)+(B.length+1);omega)))
      ·have k2:¬leS b a=true:=by rw[show leS b a=false from h2];decide
       conv=>whnf
       repeat(first|(refine ag.sb (fun _=>?_) (fun z=>absurd (z.symm.trans h1) (by decide));(conv=>whnf))|(refine ag.sb (fun z=>absurd (z.symm.trans h1) (by decide)) (fun _=>?_);(conv=>whnf))|(refine ag.nsb (fun _=>?_) (fun z=>absurd (z.symm.trans h1) (by decide));(conv=>whnf))|(refine ag.nsb (fun z=>absurd (z.symm.trans h1) (by decide)) (fun _=>?_);(conv=>whnf))|(refine ag.sb (fun _=>?_) (fun z=>absurd (z.symm.trans h2) (by decide));(conv=>whnf))|(refine ag.sb (fun z=>absurd (z.symm.trans h2) (by decide)) (fun _=>?_);(conv=>whnf))|(refine ag.nsb (fun _=>?_) (fun z=>absurd (z.symm.trans h2) (by decide));(conv=>whnf))|(refine ag.nsb (fun z=>absurd (z.symm.trans h2) (by decide)) (fun _=>?_);(conv=>whnf)))
       first
       |(refine bC.grow 1 16 _ _ _ _ _ _ tyT (.old rfl) rfl rfl (.rw rfl hO) hbig ?_;(conv=>whnf);refine⟨⟨(A,b::B,O++ [a]),?_,?_⟩,?_,gm 2 (Nat.zero_le _) rfl rfl (.fn0 rfl) (ah.rw (by decide) rfl) (.inl ⟨_,rfl,dA O a⟩)⟩;(focus (simp only[List.length_cons,List.length_append,List.length_nil]at hl⊢<;>omega));(focus (show(O++ [a])++_=_;rw[<-he,me A B k1 k2];try simp));(focus (show A.length+(B.length+1)<(A.length+1)+(B.length+1);omega)))
       |(refine⟨⟨(A,b::B,O),?_,?_⟩,?_,gm 0 (Nat.le_refl 0) rfl rfl (.fn0 rfl) (ah.rw (by decide) rfl) (.inl ⟨_,rfl,cV O⟩)⟩;(focus (simp only[List.length_cons]at hl⊢<;>omega));(focus (show(O)++_=_;rw[<-he,me A B k1 k2];try simp));(focus (show A.length+(B.length+1)<(A.length+1)+(B.length+1);omega)))
     ·have k1:¬leS a b=true:=by rw[show leS a b=false from h1];decide
      have k2:=sw a b h1
      conv=>whnf
      refine ag.sb (fun _=>?_) (fun h2=>absurd (k2.symm.trans h2) (by decide))
      conv=>whnf
      refine Idx.mk 0 rfl (Nat.succ_pos _) ?_
      conv=>whnf
      refine RSl.mk 1 (B.length+1) rfl rfl (.inl rfl) (Nat.succ_le_succ (Nat.zero_le _)) (Nat.le_refl _) ?_
      conv=>whnf
      repeat(first|(refine ag.sb (fun _=>?_) (fun z=>absurd (z.symm.trans h1) (by decide));(conv=>whnf))|(refine ag.sb (fun z=>absurd (z.symm.trans h1) (by decide)) (fun _=>?_);(conv=>whnf))|(refine ag.nsb (fun _=>?_) (fun z=>absurd (z.symm.trans h1) (by decide));(conv=>whnf))|(refine ag.nsb (fun z=>absurd (z.symm.trans h1) (by decide)) (fun _=>?_);(conv=>whnf))|(refine ag.sb (fun _=>?_) (fun z=>absurd (z.symm.trans k2) (by decide));(conv=>whnf))|(refine ag.sb (fun z=>absurd (z.symm.trans k2) (by decide)) (fun _=>?_);(conv=>whnf))|(refine ag.nsb (fun _=>?_) (fun z=>absurd (z.symm.trans k2) (by decide));(conv=>whnf))|(refine ag.nsb (fun z=>absurd (z.symm.trans k2) (by decide)) (fun _=>?_);(conv=>whnf)))
      first
      |(refine bC.grow 1 16 _ _ _ _ _ _ tyT (.old rfl) rfl rfl (.rw rfl hO) hbig ?_;(conv=>whnf);refine⟨⟨(a::A,B,O++ [b]),?_,?_⟩,?_,gm 2 (Nat.zero_le _) rfl rfl (.fn0 rfl) (ah.rw (by decide) rfl) (.inl ⟨_,rfl,dA O b⟩)⟩;(focus (simp only[List.length_cons,List.length_append,List.length_nil]at hl⊢<;>omega));(focus (show(O++ [b])++_=_;rw[<-he,mg A B k1];try simp[hq]));(focus (show(A.length+1)+B.length<(A.length+1)+(B.length+1);omega)))
      |(refine⟨⟨(a::A,B,O),?_,?_⟩,?_,gm 0 (Nat.le_refl 0) rfl rfl (.fn0 rfl) (ah.rw (by decide) rfl) (.inl ⟨_,rfl,cV O⟩)⟩;(focus (simp only[List.length_cons]at hl⊢<;>omega));(focus (show(O)++_=_;rw[<-he,mg A B k1];try simp[hq]));(focus (show(A.length+1)+B.length<(A.length+1)+(B.length+1);omega)))
theorem QA {n m k:Nat} {l r:List AV} (h1:n=m) (h2:l=r):AV.fr n k l=AV.fr m k r:=by subst h1 h2;rfl
theorem IJ {l:Nat} (h:l<=8796093022208):IntKind.i64.wrap ((l:Int).tdiv 2)=((l/2:Nat):Int):=by
 rw[show(l:Int).tdiv 2=((l/2:Nat):Int) from by rw[Int.tdiv_eq_ediv_of_nonneg (by omega)];omega];rw[al (by omega) (by omega)]
theorem Gp {x:Int} {j d:Nat} {k:IntKind} (h:x=(j:Int)):lG (some (AV.int k x)) d=some j:=by subst h;rfl
noncomputable def GS:FuncId->EP:=aV 213 [] evP
theorem Uz:aW GS:=aq az (by kernel_rfl) (by kernel_rfl)
theorem Er (V:List (List Nat)) (hV:V.length<=1000000):ax GS 3 213 [.fr V.length 1 (strs V)] .nil 0 (cF (.sb (kI V))):=by
 conv=>whnf
 refine aS.mk {i:Nat//1<=i/\(i=1∨i<=V.length)/\rl V i} 0 (fun i=>rs0 V i.val) (fun i=>V.length-i.val) ⟨1,Nat.le_refl _,.inl rfl,fun j h=>by omega⟩ ?_ ?_
 ·exact Gn (i:=1) (Nat.le_refl 0) rfl rfl
 ·intro⟨i,h0,hi,hr⟩
  conv=>whnf
  refine ag.dec (fun h1=>?_) (fun h1=>?_)
  ·have h2:i<V.length:=Int.ofNat_lt.1 h1;have h3:i-1<V.length:=by omega
   have hlt:V.length-(i+1)<V.length-i:=by omega
   have hw:IntKind.i64.wrap ((i:Int)+1)=((i+1:Nat):Int):=by rw[al (by omega) (by omega)];omega
   have hwm:IntKind.i64.wrap ((i:Int)-1)=((i-1:Nat):Int):=by rw[al (by omega) (by omega)];omega
   have hj:∀q:ltL V[i-1] V[i]=true,rl V (i+1):=fun q j h h'=>by
    by_cases e:j+1=i
    ·have e2:j=i-1:=by omega
     subst e2;have e3:i-1+1=i:=by omega
     (try simp only[e3]);exact q
    ·exact hr j (by omega) h'
   have hno:ltL V[i-1] V[i]=false->kI V=false:=fun q=>decide_eq_false fun h=>by
    have h5:i-1+1=i:=by omega
    have:=h (i-1) (by omega) (by omega);simp only[h5]at this;rw[q]at this;cases this
   conv=>whnf
   refine Idx.mk (i-1) hwm h3 ?_
   conv=>whnf
   refine ay (fI h3 (Nat.mul_one _)) ?_
   conv=>whnf
   refine Idx.mk i rfl h2 ?_
   conv=>whnf
   refine ay (fI h2 (Nat.mul_one _)) ?_
   conv=>whnf
   refine ag.nsb (fun h6=>?_) (fun h6=>?_)
   ·conv=>whnf
    exact cF.told (congrArg AV.sb (hno h6).symm)
   ·conv=>whnf
    exact⟨⟨i+1,by omega,.inr h2,hj h6⟩,hlt,Gn (Nat.le_refl 0) rfl (congrArg (AV.si .i64) hw)⟩
  ·have h2:V.length<=i:=by have:¬(i:Int)<(V.length:Int):=h1;omega
   have h3:kI V=true:=decide_eq_true fun j h h'=>hr j (by omega) h'
   conv=>whnf
   exact cF.told (congrArg AV.sb h3.symm)
def UA (cs:List AV) (v:AV):Prop:=∃V,cs=[.fr V.length 1 (strs V)]/\V.length<=1000000/\v= .sb (kI V)
theorem VV:ai 213 (aZ UA):=pv Uz 3 (by kernel_rfl) fun cs v ⟨V,h1,h2,h3⟩=>by subst h1 h3;exact⟨rfl,rfl,Er V h2⟩
def x5 (args:List AV) (H:AH) (n:Nat) (κ:PK):Prop:=match args with
 | [x,y,.fn f [] []]=>∃V W q,x= .fr V.length 1 (strs V)/\y= .fr W.length 1 (strs W)/\Qz f q/\V.length+W.length<=1000000/\κ (.fr (bo q V W).length 1 (strs (bo q V W))) H n
 |_=>False
theorem Su:iC x5:= .pure fun args H n κ hs=>by
 unfold x5 at*;split at hs
 ·obtain⟨V,W,q,h1,h2,h3,h4,h5⟩:=hs;exact⟨_,h5,fun κ' h=>⟨V,W,q,h1,h2,h3,h4,h⟩⟩
 ·exact hs.elim
theorem Sv {φ ψ:Ph} {f:Nat} {v:Value} (h:VR φ (.fn f [] []) v):VR ψ (.fn f [] []) v:=by
 obtain⟨xs,cs,rfl,h1,h2⟩:=h.mF;exact .fn (by rw[h1.aM];exact .nil) (by rw[h2.aM];exact .nil)
theorem UB:ai 206 x5:=fun args H n κ hs φ h0' hp vs K hr hargs hk=>by
 unfold x5 at hs;split at hs
 ·rename_i x y f;obtain⟨V,W,q,rfl,rfl,hq,hL,hs⟩:=hs;obtain⟨x,y,f,rfl,e1,e2,e3⟩:=vs3 hargs
  have key:Wf hp->dj Tryz.prog 206 #[x,y,f] hp K:=fun hw=>an St 3 _ _ .nil 0 _ (Ep V W _ q hq hL) ⟨fun _=>none,φ.z,φ.z,fun _ _=>False⟩ hp hp _ K (hr.xL (fB hw) (fun _ _ h=>by cases h) (fun _ h=>h)) (.cons (k7 (ψ:=⟨fun _=>none,φ.z,φ.z,fun _ _=>False⟩) (fun _ h=>h) rfl e1) (.cons (k7 (ψ:=⟨fun _=>none,φ.z,φ.z,fun _ _=>False⟩) (fun _ h=>h) rfl e2) (.cons (Sv e3) .nil))) fun χ u H' n' w g hle hg hu ⟨H3,he⟩=>by
   obtain⟨χ2,l2,hg2,hu2⟩:=he χ hp g w hg hu;obtain⟨ω,h1,h2,h3⟩:=Ck hr hg2 (fun q hq=>hle.y q (l2.y q hq));exact hk ω _ H n w g h1 h2 (oP h3 rfl hu2) hs
  exact⟨by kernel_rfl,fun w hi=>(key hi.wf).2 w hi⟩
 ·exact hs.elim
theorem fO {V:List (List Nat)} (h:V.length<2):kI V=true:=decide_eq_true fun j _ h'=>by omega
noncomputable def aG (V:List (List Nat)):List (List Nat):=if h:kI V=true then V else bo true (aG (V.take (V.length/2))) (aG (V.drop (V.length/2)))
termination_by V.length
decreasing_by
 ·have:¬V.length<2:=fun q=>h (fO q)
  simp;omega
 ·have:¬V.length<2:=fun q=>h (fO q)
  simp;omega
theorem oo {V:List (List Nat)} (h:kI V=true):aG V=V:=by rw[aG,dif_pos h]
theorem wb {V:List (List Nat)} (h:¬kI V=true):aG V=bo true (aG (V.take (V.length/2))) (aG (V.drop (V.length/2))):=by rw[aG,dif_neg h]
theorem qb:∀(N:Nat) (V:List (List Nat)),V.length<=N->(aG V).length<=V.length
 |0,V,h=>by rw[oo (fO (by omega))];exact Nat.le_refl _
 |N+1,V,h=>by
  by_cases q:kI V=true
  ·rw[oo q];exact Nat.le_refl _
  ·have h2:¬V.length<2:=fun k=>q (fO k)
   have t1:(V.take (V.length/2)).length=V.length/2:=by rw[List.length_take];omega
   have t2:(V.drop (V.length/2)).length=V.length-V.length/2:=List.length_drop;have h3:=qb N (V.take (V.length/2)) (by omega);have h4:=qb N (V.drop (V.length/2)) (by omega);have h5:=kJ true (aG (V.take (V.length/2))) (aG (V.drop (V.length/2)));rw[wb q];omega
theorem c7 (V:List (List Nat)):(aG V).length<=V.length:=qb _ V (Nat.le_refl _)
def OO (N:Nat) (cs:List AV) (v:AV):Prop:=∃V,cs=[.fr V.length 1 (strs V)]/\V.length<=N/\V.length<=1000000/\v= .fr (aG V).length 1 (strs (aG V))
def kK:DT:=[(4,[(some 0,[0]),(some 0,[3]),(some 0,[11,12]),(none,[13]),(some 1,[0]),(some 2,[3]),(some 3,[15,16]),(none,[17]),(none,[14,18]),(some 0,[19])])]
noncomputable def GSm:FuncId->EP:=cT 213 (tu UA) (cT 206 x5 evP)
theorem L6:aW GSm:=a8 (a8 az UB Su) VV.cs (vX _)
noncomputable def GSo (N:Nat):FuncId->EP:=cT 180 (tu (OO N)) GSm
theorem Sw {N:Nat} (h:ai 180 (tu (OO N))):aW (GSo N):=a8 L6 h (vX _)
theorem Es (N:Nat) (V:List (List Nat)) (hN:V.length<=N+1) (hL:V.length<=1000000):ND (GSo N) 3 kK 180 [.fr V.length 1 (strs V)] .nil 0 (cF (.fr (aG V).length 1 (strs (aG V)))):=by
 have hlen:(strs (aG V)).length=(aG V).length*1:=by rw[bj,Nat.mul_one]
 have hV1:(strs V).length=V.length*1:=by rw[bj,Nat.mul_one]
 have hbig:(0+V.length)*16<=140737488355328:=by omega
 conv=>whnf
 refine⟨[.fr V.length 1 (strs V)],_,.cons .same .nil,⟨V,rfl,hL,rfl⟩,?_⟩
 conv=>whnf
 refine ag.sb (fun h1=>?_) (fun h1=>?_)
 ·have he:=oo h1
  conv=>whnf
  refine bC.grow 1 16 _ _ _ _ _ _ tyT .fr hV1 (Cn _) .nsl hbig ?_
  conv=>whnf
  exact cF.row rfl (by rw[he,Nat.zero_add]) rfl (by rw[he];rfl) hlen (bZ _)
 ·have h2:¬V.length<2:=fun k=>by rw[fO k]at h1;cases h1
  have he:=wb (V:=V) (by rw[h1];decide);have hw:=IJ (l:=V.length) (by omega);have t1:(V.take (V.length/2)).length=V.length/2:=by rw[List.length_take];omega
  have t2:(V.drop (V.length/2)).length=V.length-V.length/2:=List.length_drop
  have hs:(aG (V.take (V.length/2))).length+(aG (V.drop (V.length/2))).length<=1000000:=by
   have:=c7 (V.take (V.length/2));have:=c7 (V.drop (V.length/2));omega
  conv=>whnf
  refine RSl.mk 0 (V.length/2) rfl (Gp hw) (.inl rfl) (Nat.zero_le _) (by omega) ?_
  conv=>whnf
  refine⟨_,_,.cons .same .nil,⟨V.take (V.length/2),congrArg (fun x=> [x]) (QA t1.symm ((congrArg ((strs V).take ·) (Nat.mul_one _)).trans (II _ _))),by omega,by omega,rfl⟩,?_⟩
  conv=>whnf
  refine RSl.mk (V.length/2) V.length (Gp hw) rfl (.inl rfl) (by omega) (Nat.le_refl _) ?_
  conv=>whnf
  refine⟨_,_,.cons .same .nil,⟨V.drop (V.length/2),congrArg (fun x=> [x]) (QA t2.symm ((congrArg ((strs V).drop ·) (Nat.mul_one _)).trans (IH _ _))),by omega,by omega,rfl⟩,?_⟩
  conv=>whnf
  refine⟨aG (V.take (V.length/2)),aG (V.drop (V.length/2)),true,rfl,rfl,.inl ⟨rfl,rfl⟩,hs,?_⟩
  conv=>whnf
  exact⟨_,by rw[he];exact .same⟩
theorem Co (V:List (List Nat)) (hN:V.length<=0):ND GSm 3 kK 180 [.fr V.length 1 (strs V)] .nil 0 (cF (.fr (aG V).length 1 (strs (aG V)))):=by
 have hlen:(strs (aG V)).length=(aG V).length*1:=by rw[bj,Nat.mul_one]
 have hV1:(strs V).length=V.length*1:=by rw[bj,Nat.mul_one]
 have hbig:(0+V.length)*16<=140737488355328:=by omega
 conv=>whnf
 refine⟨[.fr V.length 1 (strs V)],_,.cons .same .nil,⟨V,rfl,by omega,rfl⟩,?_⟩
 conv=>whnf
 refine ag.sb (fun h1=>?_) (fun h1=>absurd (fO (V:=V) (by omega)) (by rw[h1];decide));have he:=oo h1
 conv=>whnf
 refine bC.grow 1 16 _ _ _ _ _ _ tyT .fr hV1 (Cn _) .nsl hbig ?_
 conv=>whnf
 exact cF.row rfl (by rw[he,Nat.zero_add]) rfl (by rw[he];rfl) hlen (bZ _)
theorem QB:∀N,ai 180 (aZ (OO N))
 |0=>fH (Fc L6 3 (by kernel_rfl) (by kernel_rfl)) (by kernel_rfl) fun cs v ⟨V,h1,h2,h3,h4⟩=>by subst h1 h4;exact⟨rfl,rfl,Co V h2⟩
 |N+1=>fH (Fc (Sw (QB N).cs) 3 (by kernel_rfl) (by kernel_rfl)) (by kernel_rfl) fun cs v ⟨V,h1,h2,h3,h4⟩=>by subst h1 h4;exact⟨rfl,rfl,Es N V h2 h3⟩
theorem bt:∀{a b:List Nat},dp a b=true<->a=b
 | [],[]=>by simp[dp]
 | [],_::_=>by simp[dp]
 |_::_,[]=>by simp[dp]
 |a::x,b::y=>by
  unfold dp;by_cases e:a=b
  ·subst e;rw[Nat.beq_refl];simp[bt (a:=x) (b:=y)]
  ·have e1:Nat.beq a b=false:=by cases q:Nat.beq a b;rfl;exact absurd (Nat.eq_of_beq_eq_true q) e
   rw[e1];simp[e]
theorem OP {a b:Nat} (e:a≠b):Nat.beq a b=false:=by cases q:Nat.beq a b;rfl;exact absurd (Nat.eq_of_beq_eq_true q) e
theorem we (c:Nat) (x y:List Nat):ltL (c::x) (c::y)=ltL x y:=by
 show(match Nat.beq c c with|true=>ltL x y|false=>Nat.blt c c)=_;rw[Nat.beq_refl]
theorem wg {a b:Nat} (x y:List Nat) (e:a≠b):ltL (a::x) (b::y)=decide (a<b):=by
 show(match Nat.beq a b with|true=>ltL x y|false=>Nat.blt a b)=_;rw[OP e,Bool.eq_iff_iff,Nat.blt_eq,decide_eq_true_eq]
theorem gI:∀a:List Nat,ltL a a=false
 | []=>rfl
 |c::x=>by rw[we];exact gI x
theorem ig:∀{a b c:List Nat},ltL a b=true->ltL b c=true->ltL a c=true
 | [],[],_,h,_=>by cases h
 |_::_,[],_,h,_=>by cases h
 |_,_::_,[],_,k=>by cases k
 | [],_::_,_::_,_,_=>rfl
 |a::x,b::y,c::z,h,k=>by
  by_cases e:a=b
  ·subst e;rw[we]at h;by_cases f:a=c
   ·subst f;rw[we]at k⊢;exact ig h k
   ·rw[wg _ _ f]at k⊢;exact k
  ·rw[wg _ _ e]at h;have h:=of_decide_eq_true h;by_cases f:b=c
   ·subst f;rw[wg _ _ e];exact decide_eq_true h
   ·rw[wg _ _ f]at k;have k:=of_decide_eq_true k;rw[wg _ _ (by omega)];exact decide_eq_true (by omega)
def UpT (V:List Tx):Prop:=V.Pairwise fun a b=>ltL a b=true
theorem sx:∀{A B:List Tx},UpT A->UpT B->(∀s,s∈A<->s∈B)->A=B
 | [],[],_,_,_=>rfl
 | [],b::B,_,_,h=>by have:=(h b).2 List.mem_cons_self;cases this
 |a::A,[],_,_,h=>by have:=(h a).1 List.mem_cons_self;cases this
 |a::A,b::B,hA,hB,h=>by
  obtain⟨a1,a2⟩:=List.pairwise_cons.1 hA;obtain⟨b1,b2⟩:=List.pairwise_cons.1 hB
  have e:a=b:=by
   rcases List.mem_cons.1 ((h a).1 List.mem_cons_self)with e|h1
   ·exact e
   ·rcases List.mem_cons.1 ((h b).2 List.mem_cons_self)with e|h2
    ·exact e.symm
    ·have h3:=ig (a1 b h2) (b1 a h1);rw[gI]at h3;cases h3
  subst e
  rw[sx a2 b2 fun s=>⟨fun hs=>(List.mem_cons.1 ((h s).1 (List.mem_cons_of_mem _ hs))).elim (fun e=>by
   have:=a1 s hs;rw[e,gI]at this;cases this) id,fun hs=>(List.mem_cons.1 ((h s).2 (List.mem_cons_of_mem _ hs))).elim (fun e=>by
   have:=b1 s hs;rw[e,gI]at this;cases this) id⟩]
theorem oU {a b:List Nat}:leS a b=true<->ltL a b=true∨a=b:=by
 unfold leS;rw[Bool.or_eq_true,bt]
theorem L7 {a b:List Nat} (h:leS a b=true) (k:leS b a=true):a=b:=by
 rcases oU.1 h with h|h
 ·rcases oU.1 k with k|k
  ·have:=ig h k;rw[gI]at this;cases this
  ·exact k.symm
 ·exact h
theorem jA (q:Bool):∀(A B:List Tx),UpT A->UpT B->UpT (bo q A B)/\∀s,s∈bo q A B<->(s∈A/\(q=true∨s∉B))∨(q=true/\s∈B)
 | [],B,_,hB=>by
  rw[fJ];cases q with
  |true=>exact⟨hB,fun s=>by simp⟩
  |false=>exact⟨.nil,fun s=>by simp⟩
 |a::A,[],hA,_=>by rw[fK];exact⟨hA,fun s=>by simp⟩
 |a::A,b::B,hA,hB=>by
  obtain⟨a1,a2⟩:=List.pairwise_cons.1 hA;obtain⟨b1,b2⟩:=List.pairwise_cons.1 hB;by_cases h:leS a b=true
  ·by_cases k:leS b a=true
   ·have e:=L7 h k;subst e;obtain⟨s1,s2⟩:=jA q A B a2 b2;rw[mf A B h k];have na:a∉A:=fun m=>by have:=a1 a m;rw[gI]at this;cases this
    have nb:a∉B:=fun m=>by have:=b1 a m;rw[gI]at this;cases this
    cases q with
    |true=>
     refine⟨List.pairwise_cons.2 ⟨fun s hs=>((s2 s).1 hs).elim (fun z=>a1 s z.1) (fun z=>b1 s z.2),s1⟩,fun s=>?_⟩;simp only[if_true,List.cons_append,List.nil_append,List.mem_cons,s2,true_or,true_and,and_true];constructor
     ·rintro(h|h|h)
      ·exact .inl (.inl h)
      ·exact .inl (.inr h)
      ·exact .inr (.inr h)
     ·rintro((h|h)|h|h)
      ·exact .inl h
      ·exact .inr (.inl h)
      ·exact .inl h
      ·exact .inr (.inr h)
    |false=>
     refine⟨s1,fun s=>?_⟩;simp only[Bool.false_eq_true,if_false,List.nil_append,List.mem_cons,s2,false_or,false_and,or_false,not_or];constructor
     ·rintro⟨h1,h2⟩;exact⟨.inr h1,fun e=>na (e▸h1),h2⟩
     ·rintro⟨h1,h2,h3⟩;exact⟨h1.resolve_left h2,h3⟩
   ·obtain⟨s1,s2⟩:=jA q A (b::B) a2 hB;have hab:ltL a b=true:=(oU.1 h).resolve_right fun e=>k (by subst e;exact oU.2 (.inr rfl))
    rw[me A B h k]
    have nb:a∉b::B:=fun m=>by
     rcases List.mem_cons.1 m with e|m
     ·rw[<-e,gI]at hab;cases hab
     ·have:=ig hab (b1 a m);rw[gI]at this;cases this
    refine⟨List.pairwise_cons.2 ⟨fun s hs=>?_,s1⟩,fun s=>?_⟩
    ·rcases(s2 s).1 hs with hs|hs
     ·exact a1 s hs.1
     ·rcases List.mem_cons.1 hs.2 with rfl|hs
      ·exact hab
      ·exact ig hab (b1 s hs)
    ·rw[List.mem_cons,List.mem_cons (l:=A),s2];constructor
     ·rintro(h|h|h)
      ·subst h;exact .inl ⟨.inl rfl,.inr nb⟩
      ·exact .inl ⟨.inr h.1,h.2⟩
      ·exact .inr h
     ·rintro(⟨h|h,h2⟩|h)
      ·exact .inl h
      ·exact .inr (.inl ⟨h,h2⟩)
      ·exact .inr (.inr h)
  ·have k:=sw a b (by simpa using h);have hba:ltL b a=true:=(oU.1 k).resolve_right fun e=>h (by subst e;exact oU.2 (.inr rfl))
   obtain⟨s1,s2⟩:=jA q (a::A) B hA b2;rw[mg A B h]
   have na:b∉a::A:=fun m=>by
    rcases List.mem_cons.1 m with e|m
    ·rw[<-e,gI]at hba;cases hba
    ·have:=ig hba (a1 b m);rw[gI]at this;cases this
   cases q with
   |true=>
    refine⟨List.pairwise_cons.2 ⟨fun s hs=>?_,s1⟩,fun s=>?_⟩
    ·rcases(s2 s).1 hs with hs|hs
     ·rcases List.mem_cons.1 hs.1 with rfl|hs
      ·exact hba
      ·exact ig hba (a1 s hs)
     ·exact b1 s hs.2
    ·show s∈b::bo true (a::A) B<->_;rw[List.mem_cons,s2,List.mem_cons (l:=B)]
     (try simp only[true_or,true_and,and_true])
     constructor
     ·rintro(h|h|h)
      ·exact .inr (.inl h)
      ·exact .inl h
      ·exact .inr (.inr h)
     ·rintro(h|h|h)
      ·exact .inr (.inl h)
      ·exact .inl h
      ·exact .inr (.inr h)
   |false=>
    refine⟨s1,fun s=>?_⟩;show s∈bo false (a::A) B<->_;rw[s2,List.mem_cons (l:=B)];simp only[Bool.false_eq_true,false_or,false_and,or_false,not_or];exact⟨fun⟨h1,h2⟩=>⟨h1,fun e=>na (e▸h1),h2⟩,fun⟨h1,_,h3⟩=>⟨h1,h3⟩⟩
termination_by A B=>A.length+B.length
theorem L8 {V:List Tx} (h:kI V=true):UpT V:=by
 have h:rl V V.length:=of_decide_eq_true h
 have key:∀d i,∀(hj:i+d+1<V.length),ltL (V[i]'(by omega)) (V[i+d+1]'hj)=true:=fun d=>by
  induction d with
  |zero=>intro i hj;exact h i (by omega) hj
  |succ d ih=>
   intro i hj;exact ig (ih i (by omega)) (h (i+d+1) (by omega) hj)
 unfold UpT;rw[List.pairwise_iff_getElem];intro i j hi hj hij;have:=key (j-i-1) i (by omega);have e:i+(j-i-1)+1=j:=by omega
 simp only[e]at this;exact this
theorem oq:∀(N:Nat) (V:List Tx),V.length<=N->UpT (aG V)/\∀s,s∈aG V<->s∈V
 |N,V,h=>by
  by_cases q:kI V=true
  ·rw[oo q];exact⟨L8 q,fun s=>Iff.rfl⟩
  ·have h2:¬V.length<2:=fun k=>q (fO k)
   cases N with
   |zero=>omega
   |succ N=>
    have t1:(V.take (V.length/2)).length=V.length/2:=by rw[List.length_take];omega
    have t2:(V.drop (V.length/2)).length=V.length-V.length/2:=List.length_drop;obtain⟨a1,a2⟩:=oq N (V.take (V.length/2)) (by omega);obtain⟨b1,b2⟩:=oq N (V.drop (V.length/2)) (by omega);obtain⟨m1,m2⟩:=jA true _ _ a1 b1;rw[wb q];refine⟨m1,fun s=>?_⟩;rw[m2,a2,b2];simp only[true_or,and_true,true_and];rw[<-List.mem_append,List.take_append_drop]
theorem bd (V:List Tx):UpT (aG V)/\∀s,s∈aG V<->s∈V:=oq _ V (Nat.le_refl _)
noncomputable def nu (V:List Tx) (s:Tx):List Tx:=bo true (aG V) (aG [s])
noncomputable def zI (V:List Tx) (s:Tx):List Tx:=bo false (aG V) (aG [s])
theorem wi (V:List Tx) (s:Tx):(nu V s).length<=V.length+1:=by
 have h1:=kJ true (aG V) (aG [s]);have h2:=c7 V;have h3:=c7 [s];simp only[List.length_singleton]at h3;unfold nu;omega
theorem IK (V:List Tx) (s:Tx):UpT (nu V s)/\∀x,x∈nu V s<->x∈V∨x=s:=by
 obtain⟨a1,a2⟩:=bd V;obtain⟨b1,b2⟩:=bd [s];obtain⟨c1,c2⟩:=jA true _ _ a1 b1;exact⟨c1,fun x=>by unfold nu;rw[c2,a2,b2];simp⟩
noncomputable def KSo:FuncId->EP:=aw 180 (aZ (OO 1000000)) (aw 206 x5 evP)
theorem Et:aW KSo:=ae (ae az UB) (QB _)
def Sx (cs:List AV) (v:AV):Prop:=∃V s,cs=[.fr V.length 1 (strs V),.ss s]/\V.length<1000000/\v= .fr (nu V s).length 1 (strs (nu V s))
def UC (cs:List AV) (v:AV):Prop:=∃V s,cs=[.fr V.length 1 (strs V),.ss s]/\V.length<1000000/\v= .fr (zI V s).length 1 (strs (zI V s))
def Sy (cs:List AV) (v:AV):Prop:=∃V,cs=[.fr V.length 1 (strs V)]/\V.length<=1000000/\v= .fr (aG V).length 1 (strs (aG V))
theorem QC:ai 124 (aZ Sy):=pv Et 4 (by kernel_rfl) fun cs v ⟨V,h1,h2,h3⟩=>by
 subst h1 h3;refine⟨rfl,rfl,?_⟩
 conv=>whnf
 refine⟨_,_,_,.cons .same .nil,⟨V,rfl,h2,h2,rfl⟩,?_⟩
 conv=>whnf
 exact cF.same
theorem L9 {V:List Tx} {s:Tx} (h:V.length<1000000):(aG V).length+(aG [s]).length<=1000000:=by
 have h2:=c7 V;have h3:=c7 [s];simp only[List.length_singleton]at h3;omega
theorem UD:ai 166 (aZ Sx):=pv Et 4 (by kernel_rfl) fun cs v ⟨V,s,h1,h2,h3⟩=>by
 subst h1 h3;refine⟨rfl,rfl,?_⟩;have hs:=L9 (s:=s) h2
 conv=>whnf
 refine⟨_,_,_,.cons .same .nil,⟨V,rfl,by omega,by omega,rfl⟩,?_⟩
 conv=>whnf
 refine⟨[.fr 1 1 (strs [s])],_,_,.cons (.sl (l:=[.ss s]) (z:=true) rfl rfl rfl rfl) .nil,⟨[s],rfl,Nat.le_of_ble_eq_true rfl,Nat.le_of_ble_eq_true rfl,rfl⟩,?_⟩
 conv=>whnf
 refine⟨aG V,aG [s],true,rfl,rfl,.inr (.inl ⟨rfl,rfl⟩),hs,?_⟩
 conv=>whnf
 exact cF.same
theorem VW:ai 126 (aZ UC):=pv Et 4 (by kernel_rfl) fun cs v ⟨V,s,h1,h2,h3⟩=>by
 subst h1 h3;refine⟨rfl,rfl,?_⟩;have hs:=L9 (s:=s) h2
 conv=>whnf
 refine⟨_,_,_,.cons .same .nil,⟨V,rfl,by omega,by omega,rfl⟩,?_⟩
 conv=>whnf
 refine⟨[.fr 1 1 (strs [s])],_,_,.cons (.sl (l:=[.ss s]) (z:=true) rfl rfl rfl rfl) .nil,⟨[s],rfl,Nat.le_of_ble_eq_true rfl,Nat.le_of_ble_eq_true rfl,rfl⟩,?_⟩
 conv=>whnf
 refine⟨aG V,aG [s],false,rfl,rfl,.inr (.inr ⟨rfl,rfl⟩),hs,?_⟩
 conv=>whnf
 exact cF.same
def UE (cs:List AV) (v:AV):Prop:=∃(V:List Tx) (s:Tx),cs=[.fr V.length 1 (strs V),.ss s]/\V.length<=1000000/\v= .sb (decide (s∈V))
noncomputable def hs0 (V:List Tx) (s:Tx) (i:Nat):AE×AH:=(mkE [(1,.ss (s)),(7,.fr V.length 1 (strs V)),(8,.si .i64 ((V.length:Int))),(9,.si .i64 ((i:Int)))],mkH [])
theorem Gq {V:List Tx} {s:Tx} {i:Nat} {p n:Nat} {σ:AE} {H:AH} (hp:p<=0) (e1:mk (ak (pa 1) σ)= .ss (s)) (e7:ak (pa 7) σ= .fr V.length 1 (strs V)) (e8:mk (ak (pa 8) σ)= .si .i64 ((V.length:Int))) (e9:mk (ak (pa 9) σ)= .si .i64 ((i:Int))):Cov p σ H n ((hs0 V s i).1,(hs0 V s i).2,0):=
 Cov.ofA hp ⟨.str e1,ah.frE e7,.int e8,.int e9,trivial⟩ trivial rfl
theorem VX:ai 165 (aZ UE):=pv az 4 (by kernel_rfl) fun cs v ⟨V,s,h1,h2,h3⟩=>by
 subst h1 h3;refine⟨rfl,rfl,?_⟩
 conv=>whnf
 refine aS.mk {i:Nat//i<=V.length/\∀j,j<i->∀h:j<V.length,V[j]≠s} 0 (fun i=>hs0 V s i.val) (fun i=>V.length-i.val) ⟨0,Nat.zero_le _,fun j h=>by omega⟩ ?_ ?_
 ·exact Gq (i:=0) (Nat.le_refl 0) rfl rfl rfl rfl
 intro⟨i,hi,hn⟩;have hw:IntKind.i64.wrap ((i:Int)+1)=((i+1:Nat):Int):=by rw[al (by omega) (by omega)];omega
 conv=>whnf
 refine ag.dec (fun h=>?_) (fun h=>?_)
 ·have h3:i<V.length:=Int.ofNat_lt.1 h;have k1:dp V[i] s=true->AV.sb true=AV.sb (decide (s∈V)):=fun z=>congrArg AV.sb (decide_eq_true (bt.1 z▸List.getElem_mem h3)).symm
  have k2:dp V[i] s=false->∀j,j<i+1->∀h:j<V.length,V[j]≠s:=fun z j hj hl e=>by
   by_cases q:j=i
   ·subst q;rw[bt.2 e]at z;cases z
   ·exact hn j (by omega) hl e
  have hlt:V.length-(i+1)<V.length-i:=by omega
  conv=>whnf
  refine Idx.mk i rfl h3 ?_
  conv=>whnf
  refine ay (fI h3 (Nat.mul_one _)) ?_
  conv=>whnf
  refine ag.sb (fun z=>?_) (fun z=>?_)
  ·conv=>whnf
   exact cF.told (k1 z)
  ·conv=>whnf
   exact⟨⟨i+1,h3,k2 z⟩,hlt,Gq (Nat.le_refl 0) rfl rfl rfl (congrArg (AV.si .i64) hw)⟩
 ·have k:AV.sb false=AV.sb (decide (s∈V)):=congrArg AV.sb (decide_eq_false fun m=>by
   obtain⟨j,hj,e⟩:=List.getElem_of_mem m;have h:¬(i:Int)<(V.length:Int):=h;exact hn j (by omega) hj e).symm
  conv=>whnf
  exact cF.told k
abbrev Lab:=Tx×Tx
def cJ (l:List Lab):List AV:=l.flatMap fun y=> [.ss y.1,.ss y.2]
theorem gu (y:Lab) (l:List Lab):cJ (y::l)= .ss y.1:: .ss y.2::cJ l:=rfl
theorem jB (l:List Lab):(cJ l).length=l.length*2:=by
 induction l with
 |nil=>rfl
 |cons y l ih=>rw[gu];simp only[List.length_cons,ih];omega
theorem oV (l:List Lab):(cJ l).all flat.flat1=true:=by
 induction l with
 |nil=>rfl
 |cons y l ih=>rw[gu];simp only[List.all_cons,ih];rfl
theorem Cp (l:List Lab):(cJ l).all nJ=true:=by
 induction l with
 |nil=>rfl
 |cons y l ih=>rw[gu];simp only[List.all_cons,ih];rfl
theorem kM (l:List Lab):(cJ l).map mk=cJ l:=by
 induction l with
 |nil=>rfl
 |cons y l ih=>rw[gu];simp only[List.map_cons,ih];rfl
theorem sD:∀(l:List Lab) (i:Nat),(cJ l).drop (i*2)=cJ (l.drop i)
 |l,0=>by simp
 | [],i+1=>by simp[cJ]
 |y::l,i+1=>by
  rw[gu,show(i+1)*2=i*2+1+1 by omega,List.drop_succ_cons,List.drop_succ_cons,sD l i];rfl
theorem ot {l:List Lab} {i o:Nat} (h:i<l.length) (ho:o=i*2):bp (cJ l) o 2=some [.ss l[i].1,.ss l[i].2]:=by
 subst ho;unfold bp;rw[Nat.ble_eq_true_of_le (by rw[jB];omega),sD,List.drop_eq_getElem_cons h,gu];rfl
theorem Cq {l:List Lab} {i o:Nat} (h:i<l.length) (ho:o=i*2):nth (cJ l) o=some (.ss l[i].1):=by
 subst ho;have e:(cJ l)[i*2]?=((cJ l).drop (i*2))[0]?:=by rw[List.getElem?_drop];simp
 rw[fA,e,sD,List.drop_eq_getElem_cons h,gu];rfl
theorem ah.VY {H:AH} {m:Nat} {r:Nat->Nat} {a:AV} {k:Nat} (e:a= .nsl):ah H m r a (.fr 0 k []):=fun φ ψ v _ _ hv=>by
 subst e;rw[hv.cP];exact .fre fun _=>rfl
theorem ah.frS {H:AH} {m n k:Nat} {r:Nat->Nat} {l:List AV} {a:AV} (e:a= .fr n k l):ah H m r a (.fr n k l):=by subst e;exact ah.nL rfl
def im (s:Tx):Bool:=decide (s≠[])&&decide (s.length<=64)
def Cr (cs:List AV) (v:AV):Prop:=∃s,cs=[.ss s]/\v= .sb (im s)
theorem Gs:ai 105 (aZ Cr):=pv az 3 (by kernel_rfl) fun cs v ⟨s,h1,h2⟩=>by
 subst h1 h2;refine⟨rfl,rfl,?_⟩;have k0:dp s []=true->im s=false:=fun z=>by rw[bt.1 z];rfl
 have k1:dp s []=false->im s=decide (s.length<=64):=fun z=>by
  have:s≠[]:=fun e=>by rw[bt.2 e]at z;cases z
  unfold im;rw[decide_eq_true this];rfl
 conv=>whnf
 refine ag.nsb (fun z=>?_) (fun z=>?_)
 ·have k2:decide ((s.length:Int)<=64)=im s:=by rw[k1 z];exact decide_eq_decide.2 (by omega)
  conv=>whnf
  exact cF.told (congrArg AV.sb k2)
 ·have k2:=k0 z
  conv=>whnf
  exact cF.told (congrArg AV.sb k2.symm)
noncomputable def eX:List Tx->List Lab->Bool
 |_,[]=>true
 |N,x::l=>im x.1&&(im x.2&&(!decide (x.1∈N)&&eX (nu N x.1) l))
noncomputable def dO (l:List Lab):Bool:=eX [] l&&decide (l.length<=8)
theorem ou:∀(l:List Lab) (N:List Tx),eX N l=true<->(∀x∈l,im x.1=true/\im x.2=true/\x.1∉N)/\(l.map Prod.fst).Nodup
 | [],N=>by simp[eX]
 |x::l,N=>by
  simp only[eX,Bool.and_eq_true,Bool.not_eq_true',decide_eq_false_iff_not,ou l,List.map_cons,List.nodup_cons,List.forall_mem_cons,(IK N x.1).2,not_or,List.mem_map,not_exists,not_and];constructor
  ·rintro⟨h1,h2,h3,h4,h5⟩;exact⟨⟨⟨h1,h2,h3⟩,fun y hy=>⟨(h4 y hy).1,(h4 y hy).2.1,(h4 y hy).2.2.1⟩⟩,fun y hy e=>(h4 y hy).2.2.2 e,h5⟩
  ·rintro⟨⟨⟨h1,h2,h3⟩,h4⟩,h5,h6⟩;exact⟨h1,h2,h3,fun y hy=>⟨(h4 y hy).1,(h4 y hy).2.1,(h4 y hy).2.2,fun e=>h5 y hy e⟩,h6⟩
theorem Ct {l m:List Lab} (h:l.Perm m):dO l=dO m:=by
 unfold dO;rw[h.length_eq];congr 1;rw[Bool.eq_iff_iff,ou,ou];exact and_congr ⟨fun q x hx=>q x (h.mem_iff.2 hx),fun q x hx=>q x (h.mem_iff.1 hx)⟩ (h.map _).nodup_iff
theorem qc {l:List Lab} (h:dO l=true):l.length<=8:=by
 unfold dO at h;rw[Bool.and_eq_true,decide_eq_true_eq]at h;exact h.2
def Sz (cs:List AV) (v:AV):Prop:=∃l:List Lab,cs=[.fr l.length 2 (cJ l)]/\l.length<=1000/\v= .sb (dO l)
noncomputable def KLr:FuncId->EP:=aw 105 (aZ Cr) (aw 165 (aZ UE) (aw 166 (aZ Sx) evP))
theorem SA:aW KLr:=ae (ae (ae az UD) VX) Gs
noncomputable def rg0 (l:List Lab) (N:List Tx) (i:Nat):AE×AH:=(mkE [(0,.fr l.length 2 (cJ l)),(3,AV.fr N.length 1 (strs N)),(6,.fr l.length 2 (cJ l)),(7,.si .i64 ((l.length:Int))),(8,.si .i64 ((i:Int)))],mkH [])
theorem Gu {l:List Lab} {N:List Tx} {i:Nat} {p n:Nat} {σ:AE} {H:AH} (hp:p<=0) (e0:ak (pa 0) σ= .fr l.length 2 (cJ l)) (e3:ah H 0 (fun b=>b) (ak (pa 3) σ) (AV.fr N.length 1 (strs N))) (e6:ak (pa 6) σ= .fr l.length 2 (cJ l)) (e7:mk (ak (pa 7) σ)= .si .i64 ((l.length:Int))) (e8:mk (ak (pa 8) σ)= .si .i64 ((i:Int))):Cov p σ H n ((rg0 l N i).1,(rg0 l N i).2,0):=
 Cov.ofA hp ⟨ah.frE e0,e3,ah.frE e6,.int e7,.int e8,trivial⟩ trivial rfl
theorem UF:ai 106 (aZ Sz):=pv SA 4 (by kernel_rfl) fun cs v ⟨l,h1,h2,h3⟩=>by
 subst h1 h3;refine⟨rfl,rfl,?_⟩
 conv=>whnf
 refine aS.mk {t:Nat×List Tx//t.1<=l.length/\t.2.length<=t.1/\eX t.2 (l.drop t.1)=eX [] l} 0 (fun t=>rg0 l t.val.2 t.val.1) (fun t=>l.length-t.val.1) ⟨(0,[]),Nat.zero_le _,Nat.le_refl _,rfl⟩ ?_ ?_
 ·exact Gu (i:=0) (N:=[]) (Nat.le_refl 0) rfl (.VY rfl) rfl rfl rfl
 intro⟨(i,N),hi,hN,hg⟩;have hi:i<=l.length:=hi;have hN:N.length<=i:=hN;have hg:eX N (l.drop i)=eX [] l:=hg;have hw:IntKind.i64.wrap ((i:Int)+1)=((i+1:Nat):Int):=by rw[al (by omega) (by omega)];omega
 conv=>whnf
 refine ag.dec (fun h=>?_) (fun h=>?_)
 ·have h3:i<l.length:=Int.ofNat_lt.1 h;have hd:l.drop i=l[i]::l.drop (i+1):=List.drop_eq_getElem_cons h3;have hlt:l.length-(i+1)<l.length-i:=by omega
  have hg:(im l[i].1&&(im l[i].2&&(!decide (l[i].1∈N)&&eX (nu N l[i].1) (l.drop (i+1)))))=eX [] l:=by rw[<-hg,hd];rfl
  have no:eX [] l=false->AV.sb false=AV.sb (dO l):=fun e=>by unfold dO;rw[e];rfl
  have n1:im l[i].1=false->AV.sb false=AV.sb (dO l):=fun z=>no (by rw[<-hg,z];rfl)
  have n2:im l[i].2=false->AV.sb false=AV.sb (dO l):=fun z=>no (by rw[<-hg,z];simp)
  have n3:l[i].1∈N->AV.sb false=AV.sb (dO l):=fun z=>no (by rw[<-hg,decide_eq_true z];simp)
  have y3:im l[i].1=true->im l[i].2=true->¬l[i].1∈N->eX (nu N l[i].1) (l.drop (i+1))=eX [] l:=fun z1 z2 z3=>by rw[<-hg,z1,z2,decide_eq_false z3];rfl
  have hA:=wi N l[i].1;have hN1:(nu N l[i].1).length<=i+1:=by omega
  have hN2:N.length<1000000:=by omega
  have hN3:N.length<=1000000:=by omega
  clear hg hd
  conv=>whnf
  refine Idx.mk i rfl h3 ?_
  conv=>whnf
  refine ay (ot h3 rfl) ?_
  conv=>whnf
  refine⟨_,_,_,.cons .same .nil,⟨_,rfl,rfl⟩,?_⟩
  conv=>whnf
  refine ag.nsb (fun z1=>?_) (fun z1=>?_)
  ·have r:=n1 z1
   conv=>whnf
   exact cF.told r
  conv=>whnf
  refine⟨_,_,_,.cons .same .nil,⟨_,rfl,rfl⟩,?_⟩
  conv=>whnf
  refine ag.nsb (fun z2=>?_) (fun z2=>?_)
  ·have r:=n2 z2
   conv=>whnf
   exact cF.told r
  conv=>whnf
  refine⟨_,_,_,.cons .same (.cons .same .nil),⟨N,_,rfl,hN3,rfl⟩,?_⟩
  conv=>whnf
  refine ag.dec (fun z3=>?_) (fun z3=>?_)
  ·have r:=n3 z3
   conv=>whnf
   exact cF.told r
  have y:=y3 z1 z2 z3
  conv=>whnf
  refine⟨_,_,_,.cons .same (.cons .same .nil),⟨N,_,rfl,hN2,rfl⟩,?_⟩
  conv=>whnf
  exact⟨⟨(i+1,nu N l[i].1),h3,hN1,y⟩,hlt,Gu (Nat.le_refl 0) rfl (.frS rfl) rfl rfl (congrArg (AV.si .i64) hw)⟩
 ·have he:i=l.length:=by have h:¬(i:Int)<(l.length:Int):=h;omega
  have hg2:eX [] l=true:=by rw[<-hg,he,List.drop_length];rfl
  have hr:decide ((l.length:Int)<=8)=dO l:=by unfold dO;rw[hg2];exact decide_eq_decide.2 (by omega)
  conv=>whnf
  exact cF.told (congrArg AV.sb hr)
noncomputable def rm (x:Lab):List Lab->List Lab
 | []=> [x]
 |p::r=>if ltL x.1 p.1=true then p::rm x r else x::p::r
noncomputable def iM (l:List Lab):List Lab:=l.foldl (fun r x=>rm x r) []
noncomputable def dJ (l:List Lab):List Lab:=(iM l).reverse
theorem x6 (x:Lab):∀r:List Lab,(rm x r).Perm (x::r)
 | []=> .refl _
 |p::r=>by
  unfold rm;split
  ·exact((x6 x r).cons p).trans (.swap x p r)
  ·exact .refl _
theorem qd:∀(l r:List Lab),(l.foldl (fun r x=>rm x r) r).Perm (l++r)
 | [],r=> .refl _
 |x::l,r=>(qd l (rm x r)).trans (((x6 x r).append_left l).trans List.perm_middle)
theorem qe (l:List Lab):(dJ l).Perm l:=(List.reverse_perm _).trans ((qd l []).trans (by rw[List.append_nil]))
theorem Eu {l:List Lab} {i:Nat} (h:i<l.length):iM (l.take (i+1))=rm l[i] (iM (l.take i)):=by
 unfold iM;rw[List.take_succ_eq_append_getElem h,List.foldl_append];rfl
theorem IL (l:List Lab):(iM l).length=l.length:=by
 have:=(qd l []).length_eq;rwa [List.append_nil]at this
theorem Cu:∀(L:List Lab) (i:Nat) (y:Lab),i<L.length->eY (cJ L) (i*2) [.ss y.1,.ss y.2]=some (cJ (L.set i y))
 | [],i,_,h=>by simp at h
 |z::L,0,y,_=>by
  rw[gu];show(eY (.ss z.2::cJ L) 0 [.ss y.2]).map _=_;show((eY (cJ L) 0 []).map _).map _=_;have:eY (cJ L) 0 []=some (cJ L):=by unfold eY;cases cJ L<;>rfl
  rw[this];rfl
 |z::L,i+1,y,h=>by
  rw[gu,show(i+1)*2=i*2+1+1 by omega];show(eY (.ss z.2::cJ L) (i*2+1) _).map _=_;show((eY (cJ L) (i*2) _).map _).map _=_;rw[Cu L i y (by simpa using h)];rfl
theorem Gv {L M:List Lab} {i o:Nat} {y:Lab} (h:i<L.length) (ho:o=i*2) (hM:L.set i y=M):eY (cJ L) o [.ss y.1,.ss y.2]=some (cJ M):=by subst ho hM;exact Cu L i y h
theorem UG:RTy 28 28 2 32:=⟨_,_,_,rfl,rfl,(fun q h=>by cases h),rfl,rfl,rfl,rfl,by decide,by decide⟩
noncomputable def so0 (L:List Lab) (m:Nat) (i:Nat):AE×AH:=(mkE [(3,.rw 0 0 m 2 0),(9,.si .i64 ((m:Int))),(10,.si .i64 ((i:Int)))],mkH [(0,.cells (cJ (L)) true)])
theorem zJ {L:List Lab} {m:Nat} {i:Nat} {p n:Nat} {σ:AE} {H:AH} (j0:Nat) (hp:p<=0) (e3:ah H 1 (fun b=>if b=0 then j0 else b) (ak (pa 3) σ) (.rw 0 0 m 2 0)) (e9:mk (ak (pa 9) σ)= .si .i64 ((m:Int))) (e10:mk (ak (pa 10) σ)= .si .i64 ((i:Int))) (h0:(∃l,H.get j0=some (.cells l true)/\l.map mk=cJ (L))∨((L)=[]/\n<=j0)):Cov p σ H n ((so0 L m i).1,(so0 L m i).2,1):=
 Cov.ofB (fun b=>if b=0 then j0 else b) (by omega) (fun b hb=>by repeat' rw[if_neg (by omega)]) ⟨e3,.int e9,.int e10,trivial⟩ ⟨h0.elim (fun⟨l,h,g⟩=> .inl ⟨_,h,au.bz (oV _) (by rw[g,kM]) (fun q=>q)⟩) (fun h=> .inr ⟨by rw[h.1];rfl,h.2⟩),trivial⟩ rfl (fun x hx y hy=>by simp only[List.mem_cons,List.not_mem_nil,or_false]at hx hy;subst hx hy;exact fun _=>rfl)
noncomputable def so1 (L:List Lab) (m:Nat) (i:Nat) (k:Nat):AE×AH:=(mkE [(3,.rw 0 0 m 2 0),(5,.si .i64 ((k:Int))),(9,.si .i64 ((m:Int))),(10,.si .i64 ((i:Int)))],mkH [(0,.cells (cJ (L)) true)])
theorem Gw {L:List Lab} {m:Nat} {i:Nat} {k:Nat} {p n:Nat} {σ:AE} {H:AH} (j0:Nat) (hp:p<=0) (e3:ah H 1 (fun b=>if b=0 then j0 else b) (ak (pa 3) σ) (.rw 0 0 m 2 0)) (e5:mk (ak (pa 5) σ)= .si .i64 ((k:Int))) (e9:mk (ak (pa 9) σ)= .si .i64 ((m:Int))) (e10:mk (ak (pa 10) σ)= .si .i64 ((i:Int))) (h0:(∃l,H.get j0=some (.cells l true)/\l.map mk=cJ (L))∨((L)=[]/\n<=j0)):Cov p σ H n ((so1 L m i k).1,(so1 L m i k).2,1):=
 Cov.ofB (fun b=>if b=0 then j0 else b) (by omega) (fun b hb=>by repeat' rw[if_neg (by omega)]) ⟨e3,.int e5,.int e9,.int e10,trivial⟩ ⟨h0.elim (fun⟨l,h,g⟩=> .inl ⟨_,h,au.bz (oV _) (by rw[g,kM]) (fun q=>q)⟩) (fun h=> .inr ⟨by rw[h.1];rfl,h.2⟩),trivial⟩ rfl (fun x hx y hy=>by simp only[List.mem_cons,List.not_mem_nil,or_false]at hx hy;subst hx hy;exact fun _=>rfl)
noncomputable def VZ:FuncId->EP:=aV 167 [] evP
theorem OQ:aW VZ:=aq az (by kernel_rfl) (by kernel_rfl)
def QD (cs:List AV) (v:AV):Prop:=∃l:List Lab,cs=[.fr l.length 2 (cJ l)]/\l.length<=1000/\v= .fr l.length 2 (cJ (dJ l))
theorem UH:ai 167 (aZ QD):=pv OQ 4 (by kernel_rfl) fun cs v ⟨l,h1,h2,h3⟩=>by
 subst h1 h3;refine⟨rfl,rfl,?_⟩;have hbig:(0+l.length)*32<=140737488355328:=by omega
 conv=>whnf
 refine bC.grow 2 32 _ _ _ _ _ _ UG .fr (jB l) (Cp l) .nsl hbig ?_
 conv=>whnf
 refine aS.mk {i:Nat//i<=l.length} 1 (fun i=>so0 ((iM (l.take i.val)).reverse++l.drop i.val) l.length i.val) (fun i=>l.length-i.val) ⟨0,Nat.zero_le _⟩ ?_ ?_
 focus
  exact zJ (L:=(iM (l.take 0)).reverse++l.drop 0) (i:=0) 0 (Nat.le_refl 0) (.rw (by decide) rfl) (congrArg (AV.si .i64) (by omega)) rfl (.inl ⟨_,rfl,kM l⟩)
 intro⟨i,hi⟩;have hi:i<=l.length:=hi;have hw:IntKind.i64.wrap ((i:Int)+1)=((i+1:Nat):Int):=by rw[al (by omega) (by omega)];omega
 conv=>whnf
 refine ag.dec (fun h=>?_) (fun h=>?_)
 focus
  have h3:i<l.length:=Int.ofNat_lt.1 h;have hR0:=IL (l.take i);rw[List.length_take,Nat.min_eq_left hi]at hR0;have e0:(iM (l.take i)).reverse++l.drop i=(iM (l.take i)).reverse++l[i]::([]++l.drop (i+1)):=by rw[List.drop_eq_getElem_cons h3];rfl
  conv=>whnf
  refine aS.mk {t:List Lab×List Lab//t.1.length+t.2.length=i/\t.2.reverse++rm l[i] t.1=iM (l.take (i+1))} 1 (fun t=>so1 (t.val.1.reverse++l[i]::(t.val.2++l.drop (i+1))) l.length i t.val.1.length) (fun t=>t.val.1.length) ⟨(iM (l.take i),[]),hR0,(Eu h3).symm⟩ ?_ ?_
  focus
   exact Gw (k:=(iM (l.take i)).length) 0 (Nat.le_refl 0) (.rw (by decide) rfl) (congrArg (AV.si .i64) (by rw[hR0])) rfl rfl (.inl ⟨_,rfl,by rw[e0,kM]⟩)
  intro⟨(r,S),hl,hs⟩;have hl:r.length+S.length=i:=hl;have hs:S.reverse++rm l[i] r=iM (l.take (i+1)):=hs;have hlen:(r.reverse++l[i]::(S++l.drop (i+1))).length=l.length:=by simp only[List.length_append,List.length_reverse,List.length_cons,List.length_drop];omega
  have done:rm l[i] r=l[i]::r->(iM (l.take (i+1))).reverse++l.drop (i+1)=r.reverse++l[i]::(S++l.drop (i+1)):=fun e=>by rw[<-hs,e];simp
  cases r with
  |nil=>
   have hd:=done rfl
   conv=>whnf
   refine ag.dec (fun z=>absurd (show((0:Nat):Int)>0 from z) (by decide)) (fun _=>?_)
   conv=>whnf
   exact⟨⟨i+1,h3⟩,by show l.length-(i+1)<l.length-i;omega,zJ (L:=(iM (l.take (i+1))).reverse++l.drop (i+1)) (i:=i+1) 0 (Nat.le_refl 0) (.rw (by decide) rfl) rfl (congrArg (AV.si .i64) hw) (.inl ⟨_,rfl,by rw[hd,kM]⟩)⟩
  |cons p r=>
   have hk:IntKind.i64.wrap (((p::r).length:Int)-1)=((r.length:Nat):Int):=by simp only[List.length_cons]at hl⊢;rw[al (by omega) (by omega)];omega
   have eL:(p::r).reverse++l[i]::(S++l.drop (i+1))=r.reverse++p::l[i]::(S++l.drop (i+1)):=by simp
   have hx1:r.length+1<((p::r).reverse++l[i]::(S++l.drop (i+1))).length:=by rw[hlen];simp only[List.length_cons]at hl;omega
   have hx0:r.length<((p::r).reverse++l[i]::(S++l.drop (i+1))).length:=by omega
   have g1:((p::r).reverse++l[i]::(S++l.drop (i+1)))[r.length+1]=l[i]:=by
    rw[List.getElem_append_right (by simp)];simp
   have g0:((p::r).reverse++l[i]::(S++l.drop (i+1)))[r.length]=p:=by
    rw[List.getElem_of_eq eL,List.getElem_append_right (by simp)];simp
   have n1:=Cq hx1 (show 0+(r.length+1)*2+0=(r.length+1)*2 by omega);have n0:=Cq hx0 (show 0+r.length*2+0=r.length*2 by omega);rw[g1]at n1;rw[g0]at n0;have s1:=ot hx1 (show 0+(r.length+1)*2=(r.length+1)*2 by omega);have s0:=ot hx0 (show 0+r.length*2=r.length*2 by omega);rw[g1]at s1;rw[g0]at s0
   have w1:eY (cJ ((p::r).reverse++l[i]::(S++l.drop (i+1)))) (0+(r.length+1)*2) [.ss p.1,.ss p.2]=some (cJ (r.reverse++p::p::(S++l.drop (i+1)))):=Gv hx1 (by omega) (by
    rw[eL,List.set_append_right _ _ (by simp)];simp)
   have w0:eY (cJ (r.reverse++p::p::(S++l.drop (i+1)))) (0+r.length*2) [.ss l[i].1,.ss l[i].2]=some (cJ (r.reverse++l[i]::(p::S++l.drop (i+1)))):=Gv (i:=r.length) (by simp only[List.length_append,List.length_reverse,List.length_cons];omega) (by omega) (by
    rw[List.set_append_right _ _ (by simp)];simp)
   have hm:r.length+1<l.length:=by simp only[List.length_cons]at hl;omega
   have hm0:r.length<l.length:=by omega
   have hpos:((p::r).length:Int)>0:=by simp only[List.length_cons];omega
   have hlt:r.length<(p::r).length:=Nat.lt_succ_self _;have hS:r.length+(p::S).length=i:=by simp only[List.length_cons]at hl⊢;omega
   have ins:ltL l[i].1 p.1=true->(p::S).reverse++rm l[i] r=iM (l.take (i+1)):=fun z=>by
    rw[<-hs];have e:rm l[i] (p::r)=p::rm l[i] r:=if_pos z;rw[e];simp
   have noi:ltL l[i].1 p.1=false->rm l[i] (p::r)=l[i]::p::r:=fun z=>if_neg (by rw[z];decide)
   have fin:=fun z=>done (noi z)
   clear eL g0 g1 done noi hs
   conv=>whnf
   refine ag.dec (fun _=>?_) (fun z=>absurd hpos z)
   conv=>whnf
   refine Idx.mk (r.length+1) rfl hm ?_
   conv=>whnf
   refine ay n1 ?_
   conv=>whnf
   refine Idx.mk r.length hk hm0 ?_
   conv=>whnf
   refine ay n0 ?_
   conv=>whnf
   refine ag.sb (fun z=>?_) (fun z=>?_)
   focus
    have q:=ins z
    conv=>whnf
    refine Idx.mk r.length hk hm0 ?_
    conv=>whnf
    refine ay s0 ?_
    conv=>whnf
    refine Idx.mk (r.length+1) rfl hm ?_
    conv=>whnf
    refine ay s1 ?_
    conv=>whnf
    refine Idx.mk (r.length+1) rfl hm ?_
    conv=>whnf
    refine ay w1 ?_
    conv=>whnf
    refine Idx.mk r.length hk hm0 ?_
    conv=>whnf
    refine ay w0 ?_
    conv=>whnf
    exact⟨⟨(r,p::S),hS,q⟩,hlt,Gw (k:=r.length) 0 (Nat.le_refl 0) (.rw (by decide) rfl) (congrArg (AV.si .i64) hk) rfl rfl (.inl ⟨_,rfl,kM _⟩)⟩
   have hd:=fin z
   conv=>whnf
   exact⟨⟨i+1,h3⟩,by show l.length-(i+1)<l.length-i;omega,zJ (L:=(iM (l.take (i+1))).reverse++l.drop (i+1)) (i:=i+1) 0 (Nat.le_refl 0) (.rw (by decide) rfl) rfl (congrArg (AV.si .i64) hw) (.inl ⟨_,rfl,by rw[hd,kM]⟩)⟩
 have he:i=l.length:=by have h:¬(i:Int)<(l.length:Int):=h;omega
 have hs:(iM (l.take i)).reverse++l.drop i=dJ l:=by rw[he,List.take_length,List.drop_length,List.append_nil];rfl
 have hlen:(cJ (dJ l)).length=l.length*2:=by rw[jB,(qe l).length_eq]
 conv=>whnf
 exact cF.row rfl rfl rfl (by rw[hs]) hlen (oV _)
mutual
theorem Ma:∀a:AV,ren (fun b=>b) a=a
 | .agg l=>congrArg AV.agg (mY l)
 | .tup l=>congrArg AV.tup (mY l)
 | .fn f a c=>by simp only[ren,mY a,mY c]
 | .ptr _ _| .sl _ _ _ _ _| .esl _| .map _| .sy _ _ _ _ _| .rw _ _ _ _ _| .int _ _| .str _| .bool _| .nil| .nsl| .any _| .bad| .si _ _| .sb _| .ss _| .fr _ _ _| .fa _ _=>rfl
theorem mY:∀l:List AV,du (fun b=>b) l=l
 | []=>rfl
 |a::l=>by simp only[du,Ma a,mY l]
end
theorem zK:∀l:List (AV×AV),wS (fun b=>b) l=l
 | []=>rfl
 |a::l=>by simp only[wS,Ma,zK l]
theorem Gx (o:AO):cx (fun b=>b) o=o:=by
 cases o with
 |cells l z=>exact congrArg (AO.cells · z) (mY l)
 |map es=>exact congrArg AO.map (zK es)
 |mp es bs cl=>exact congrArg (AO.mp · bs cl) (zK es)
 |ro l=>exact congrArg AO.ro (mY l)
 |iter b k seen=>rfl
 |sep Q=>rfl
section
variable {K V:Type} [DecidableEq K]
def fP (k:K):List (K×V)->Nat->Option (Nat×V)
 | [],_=>none
 |e::A,i=>if k=e.1 then some (i,e.2)else fP k A (i+1)
def aJ (A:List (K×V)) (k:K):Option V:=(fP k A 0).map Prod.snd
theorem mZ {k:K}:∀{A:List (K×V)} {i:Nat},fP k A i=none->∀e∈A,e.1≠k
 | [],_,_,e,h=>by cases h
 |a::A,i,h,e,he=>by
  unfold fP at h;split at h
  ·cases h
  ·rename_i hk;rcases List.mem_cons.1 he with rfl|he
   ·exact fun q=>hk q.symm
   ·exact mZ h e he
theorem fQ {k:K}:∀{A:List (K×V)} {i j:Nat} {v:V},fP k A i=some (j,v)->i<=j/\A[j-i]?=some (k,v)
 | [],_,_,_,h=>by cases h
 |a::A,i,j,v,h=>by
  unfold fP at h;split at h
  ·rename_i hk;injection h with h;injection h with h1 h2;subst h1 h2 hk;exact⟨Nat.le_refl _,by simp⟩
  ·obtain⟨h1,h2⟩:=fQ h;refine⟨by omega,?_⟩;rw[show j-i=(j-(i+1))+1 by omega];simpa using h2
theorem cW {A:List (K×V)} {k:K} {v:V} (h:aJ A k=some v):(k,v)∈A:=by
 unfold aJ at h;rw[Option.map_eq_some_iff]at h;obtain⟨⟨i,u⟩,h1,rfl⟩:=h;exact List.mem_of_getElem? (fQ h1).2
theorem sF {A:List (K×V)} {k:K} (h:aJ A k=none):∀e∈A,e.1≠k:=by
 unfold aJ at h;rw[Option.map_eq_none_iff]at h;exact mZ h
theorem dX {A:List (K×V)} {k:K} {v:V} (hn:(A.map Prod.fst).Nodup) (h:(k,v)∈A):aJ A k=some v:=by
 cases e:aJ A k with
 |none=>exact absurd rfl (sF e _ h)
 |some u=>
  have h2:=cW e;obtain⟨i,hi,e1⟩:=List.getElem_of_mem h;obtain⟨j,hj,e2⟩:=List.getElem_of_mem h2;have:i=j:=(List.getElem_inj (xs:=A.map Prod.fst) (h₀:=by simpa using hi) (h₁:=by simpa using hj) hn).1 (by simp[e1,e2]);subst this;rw[e1]at e2;injection e2 with _ e2;rw[e2]
structure MpC (K V:Type)where
 A:List (K×V)
 bs:List Nat
 cl:Nat
structure MpC.Ok (m:MpC K V):Prop where
 len:m.bs.length=m.A.length
 nd:m.bs.Nodup
 lt:∀x∈m.bs,x<m.cl
 key:(m.A.map Prod.fst).Nodup
def MpC.no:MpC K V:=⟨[],[],0⟩
def MpC.put (m:MpC K V) (k:K) (v:V):MpC K V:=match fP k m.A 0 with
 |none=>⟨m.A++ [(k,v)],m.bs++ [m.cl],m.cl+1⟩
 |some (i,_)=>⟨m.A.set i (k,v),m.bs,m.cl⟩
def MpC.del (m:MpC K V) (k:K):MpC K V:=match fP k m.A 0 with
 |none=>m
 |some (i,_)=>⟨m.A.eraseIdx i,m.bs.eraseIdx i,m.cl⟩
theorem MpC.Ok.put {m:MpC K V} (h:m.Ok) (k:K) (v:V):(m.put k v).Ok:=by
 unfold MpC.put;split
 ·rename_i e;refine⟨by simp[h.len],?_,fun x hx=>?_,?_⟩
  ·rw[List.nodup_append];exact⟨h.nd,by simp,fun x hx y hy=>by have:=h.lt x hx;simp at hy;subst hy;show x≠m.cl;omega⟩
  ·rcases List.mem_append.1 hx with hx|hx
   ·have:=h.lt x hx;show x<m.cl+1;omega
   ·simp at hx;subst hx;exact Nat.lt_succ_self _
  ·rw[List.map_append,List.nodup_append];refine⟨h.key,by simp,fun x hx y hy=>?_⟩;simp at hy;subst hy;obtain⟨z,hz,rfl⟩:=List.mem_map.1 hx;exact mZ e z hz
 ·rename_i i u e;refine⟨by simp[h.len],h.nd,h.lt,?_⟩;have h2:=(fQ e).2;rw[Nat.sub_zero]at h2
  have:(m.A.set i (k,v)).map Prod.fst=m.A.map Prod.fst:=by
   rw[List.map_set];obtain⟨hl,h3⟩:=List.getElem?_eq_some_iff.1 h2;apply List.ext_getElem (by simp);intro j h4 h5;rw[List.getElem_set];split
   ·rename_i q;subst q;simp[h3]
   ·rfl
  show((m.A.set i (k,v)).map Prod.fst).Nodup;rw[this];exact h.key
theorem MpC.Ok.del {m:MpC K V} (h:m.Ok) (k:K):(m.del k).Ok:=by
 unfold MpC.del;split
 ·exact h
 ·rename_i i u e;refine⟨?_,h.nd.sublist (List.eraseIdx_sublist _ _),fun x hx=>h.lt x ((List.eraseIdx_sublist _ _).subset hx),?_⟩
  ·show(m.bs.eraseIdx i).length=(m.A.eraseIdx i).length;rw[List.length_eraseIdx,List.length_eraseIdx,h.len]
  ·show((m.A.eraseIdx i).map Prod.fst).Nodup;exact h.key.sublist ((List.eraseIdx_sublist _ _).map _)
theorem rn {m:MpC K V} {k:K} {v:V} {e:K×V} (h:e∈(m.put k v).A):e=(k,v)∨e∈m.A:=by
 unfold MpC.put at h;split at h
 ·rcases List.mem_append.1 h with h|h
  ·exact .inr h
  ·simp at h;exact .inl h
 ·exact(List.mem_or_eq_of_mem_set h).symm
theorem zL {m:MpC K V} {k:K} {e:K×V} (h:e∈(m.del k).A):e∈m.A:=by
 unfold MpC.del at h;split at h
 ·exact h
 ·exact(List.eraseIdx_sublist _ _).subset h
theorem wj {m:MpC K V} (h:m.Ok) (k:K) (v:V) (x:K):aJ (m.put k v).A x=if x=k then some v else aJ m.A x:=by
 have hp:=(h.put k v).key
 have b9:∀e∈m.A,e.1≠k->e∈(m.put k v).A:=fun e he hk=>by
  unfold MpC.put;split
  ·exact List.mem_append_left _ he
  ·rename_i i u e2;obtain⟨j,hj,e3⟩:=List.getElem_of_mem he;have h2:=(fQ e2).2;rw[Nat.sub_zero]at h2
   have hne:i≠j:=fun q=>by
    subst q;rw[List.getElem?_eq_getElem hj,e3]at h2;injection h2 with h2;rw[h2]at hk;exact hk rfl
   show e∈m.A.set i (k,v);rw[<-e3];exact List.mem_iff_getElem.2 ⟨j,by simpa using hj,by rw[List.getElem_set_ne hne]⟩
 have new:(k,v)∈(m.put k v).A:=by
  unfold MpC.put;split
  ·simp
  ·rename_i i u e2;have h2:=(fQ e2).2;rw[Nat.sub_zero]at h2;obtain⟨hl,_⟩:=List.getElem?_eq_some_iff.1 h2;exact List.mem_iff_getElem.2 ⟨i,by simpa using hl,by simp⟩
 split
 ·rename_i e;subst e;exact dX hp new
 ·rename_i hx;cases e:aJ m.A x with
  |some u=>exact dX hp (b9 _ (cW e) hx)
  |none=>
   cases e2:aJ (m.put k v).A x with
   |none=>rfl
   |some w=>
    rcases rn (cW e2)with q|q
    ·injection q with q _;exact absurd q hx
    ·exact absurd rfl (sF e _ q)
theorem Cv {m:MpC K V} (h:m.Ok) (k x:K):aJ (m.del k).A x=if x=k then none else aJ m.A x:=by
 have hp:=(h.del k).key;split
 ·rename_i e;subst e;cases e2:aJ (m.del x).A x with
  |none=>rfl
  |some u=>
   have h3:=cW e2;unfold MpC.del at h3;split at h3
   ·rename_i e;exact absurd rfl (mZ e _ h3)
   ·rename_i i w e;have h2:=(fQ e).2;rw[Nat.sub_zero]at h2;obtain⟨hl,h4⟩:=List.getElem?_eq_some_iff.1 h2;obtain⟨j,hj,h5⟩:=List.mem_eraseIdx_iff_getElem.1 h3;have:i=j:=(List.getElem_inj (xs:=m.A.map Prod.fst) (h₀:=by simpa using hl) (h₁:=by simpa using hj) h.key).1 (by simp[h4,h5.2]);exact absurd this.symm h5.1
 ·rename_i hx;cases e:aJ m.A x with
  |some u=>
   refine dX hp ?_;have h1:=cW e;unfold MpC.del;split
   ·exact h1
   ·rename_i i w e2;have h2:=(fQ e2).2;rw[Nat.sub_zero]at h2;obtain⟨j,hj,e3⟩:=List.getElem_of_mem h1;refine List.mem_eraseIdx_iff_getElem.2 ⟨j,hj,fun q=>?_,e3⟩;subst q;rw[List.getElem?_eq_getElem hj,e3]at h2;injection h2 with h2;injection h2 with h2;exact hx h2
  |none=>
   cases e2:aJ (m.del k).A x with
   |none=>rfl
   |some w=>exact absurd rfl (sF e _ (zL (cW e2)))
end
theorem MpC.Cw {K V:Type}:(MpC.no:MpC K V).Ok:=⟨rfl,.nil,fun x h=>(by cases h),.nil⟩
section
variable {K V:Type} [DecidableEq K] {kA:K->AV} {g:V->AV} {kd:TypeDesc}
def jd (kA:K->AV) (g:V->AV) (A:List (K×V)):List (AV×AV):=A.map fun e=>(kA e.1,g e.2)
def MpC.O (kA:K->AV) (g:V->AV) (m:MpC K V):AO:= .mp (jd kA g m.A) m.bs m.cl
structure wm (kA:K->AV) (kd:TypeDesc):Prop where
 same:∀a b,AG kd (kA a) (kA b)=some (decide (a=b))
 ok:∀a,yD kd (kA a)=true
theorem oW (hk:wm kA kd) (k:K):∀(A:List (K×V)) (i:Nat),lH kd (kA k) (jd kA g A) i=some ((fP k A i).map fun r=>(r.1,g r.2))
 | [],i=>by
  show(match yD kd (kA k)with|true=>some none|false=>none)=_;rw[hk.ok];rfl
 |e::A,i=>by
  show(match AG kd (kA k) (kA e.1)with|some true=>some (some (i,g e.2))|some false=>lH kd (kA k) (jd kA g A) (i+1)|none=>none)=_;rw[hk.same];unfold fP;by_cases q:k=e.1
  ·rw[if_pos q,decide_eq_true q];rfl
  ·rw[if_neg q,decide_eq_false q];exact oW hk k A (i+1)
def lkV (ok:Bool) (z:AV) (r:Option AV):AV:=match ok,r with
 |true,some v=> .tup [v,.bool true]
 |false,some v=>v
 |true,none=> .tup [z,.bool false]
 |false,none=>z
theorem OS {P:Program} {t kt et:TypeId} {H:AH} {b:Nat} {m:MpC K V} {k:K} {ok:Bool} {z:Value} {x y:AV} (hk:wm kA kd) (ht:dq P t=some (kt,kd,et)) (hx:x= .map b) (hy:y=kA k) (hb:H.get b=some (m.O kA g)) (hz:cL P et=some z):jj P t x y ok H=some (lkV ok (ofV z) ((aJ m.A k).map g)):=by
 subst hx hy;unfold jj;rw[ht];dsimp only;rw[hb];show rL P kd et (kA k) ok (jd kA g m.A)=_;unfold rL;rw[oW hk];unfold aJ;cases fP k m.A 0 with
 |none=>simp only[Option.map_none,hz];cases ok<;>rfl
 |some r=>cases ok<;>rfl
theorem wo {P:Program} {t kt et:TypeId} {H:AH} {n b:Nat} {m:MpC K V} {k:K} {v:V} {x y u:AV} (hk:wm kA kd) (ht:dq P t=some (kt,kd,et)) (hx:x= .map b) (hy:y=kA k) (hu:u=g v) (hb:H.get b=some (m.O kA g)):kY P t x y u H n=some (cM,H.set (some ((m.put k v).O kA g)) aa b,n):=by
 subst hx hy hu;unfold kY;rw[ht];dsimp only;rw[hb];show(match lH kd (kA k) (jd kA g m.A) 0 with|some none=>_|some (some y)=>_|none=>none)=_;rw[oW hk]
 have e1:∀A:List (K×V),kX (kA k) (g v) (jd kA g A) none=jd kA g (A++ [(k,v)]):=fun A=>by
  have:kX (kA k) (g v) (jd kA g A) none=jd kA g A++ [(kA k,g v)]:=by cases A<;>rfl
  rw[this];unfold jd;rw[List.map_append];rfl
 have e2:∀(A:List (K×V)) (i:Nat) (w:AV),kX (kA k) (g v) (jd kA g A) (some (i,w))=jd kA g (A.set i (k,v)):=fun A=>by
  induction A with
  |nil=>intro i w;rfl
  |cons e A ih=>
   intro i w;cases i with
   |zero=>rfl
   |succ i=>show _::kX (kA k) (g v) (jd kA g A) (some (i,w))=_;rw[ih];rfl
 unfold MpC.put;cases h:fP k m.A 0 with
 |none=>simp only[Option.map_none,e1];rfl
 |some r=>obtain⟨i,w⟩:=r;simp only[Option.map_some,e2];rfl
theorem sG {P:Program} {t kt et:TypeId} {H:AH} {n b:Nat} {m:MpC K V} {k:K} {x y:AV} (hk:wm kA kd) (ht:dq P t=some (kt,kd,et)) (hx:x= .map b) (hy:y=kA k) (hb:H.get b=some (m.O kA g)):Dl P t x y H n=some (.tup [],H.set (some ((m.del k).O kA g)) aa b,n):=by
 subst hx hy;unfold Dl;rw[ht];dsimp only;rw[hb];show(match lH kd (kA k) (jd kA g m.A) 0 with|some none=>_|some (some (i,_))=>_|none=>none)=_;rw[oW hk];unfold MpC.del;cases h:fP k m.A 0 with
 |none=>rfl
 |some r=>
  obtain⟨i,w⟩:=r;show some (AV.tup [],H.set (some (AO.mp ((jd kA g m.A).eraseIdx i) (m.bs.eraseIdx i) m.cl)) aa b,n)=_;unfold jd;rw[<-rT];rfl
end
section
variable {K V:Type} {kA:K->AV} {g:V->AV}
theorem bg {m:MpC K V} {j:Nat} (hk:∀k,ltV j (kA k)=true) (hg:∀v,ltV j (g v)=true):ltO j (m.O kA g)=true:=by
 show ltE j (jd kA g m.A)=true;unfold jd
 induction m.A with
 |nil=>rfl
 |cons e A ih=>show(ltV j (kA e.1)&&(ltV j (g e.2)&&ltE j (jd kA g A)))=true;rw[hk,hg];exact ih
theorem uf {A:List (K×V)} {i:Nat} {e:AV×AV} (h:(jd kA g A)[i]?=some e):∃hl:i<A.length,e=(kA A[i].1,g A[i].2):=by
 unfold jd at h;rw[List.getElem?_map,Option.map_eq_some_iff]at h;obtain⟨x,h1,h2⟩:=h;obtain⟨h3,h4⟩:=List.getElem?_eq_some_iff.1 h1;subst h4;exact⟨h3,h2.symm⟩
theorem au.Mb {H:AH} {j:Nat} {r:Nat->Nat}:au H j r (.map []) ((MpC.no:MpC K V).O kA g):=⟨⟨rfl,rfl⟩,fun φ ψ p ob _ _ ⟨ms,cl,h1,h2,h3⟩=>by
 have h2:ms.toList=[]:=h2;have h4:cl=0:=by rw[h3.1,h2];rfl
 subst h4;exact⟨ms,h1,h2,by rw[h2];rfl⟩⟩
end
def kT (s:Tx):AV:= .str s
def kL (y:Lab):AV:= .agg [.str y.1,.str y.2]
theorem bN:wm kT .string:=⟨fun a b=>congrArg some (by rw[Bool.eq_iff_iff,bt,decide_eq_true_eq]),fun _=>rfl⟩
theorem Gy {fs:Array Field} (h:jM fs=[(1,0),(1,1)]):wm kL (.struct fs):=by
 have e:∀a b:Lab,(dp a.1 b.1&&(dp a.2 b.2&&true))=decide (a=b):=fun a b=>by
  rw[Bool.eq_iff_iff,Bool.and_eq_true,Bool.and_eq_true,bt,bt,decide_eq_true_eq,Prod.ext_iff];simp
 refine⟨fun a b=>?_,fun a=>?_⟩
 ·show(match jr [AV.str a.1,.str a.2] [.str b.1,.str b.2] (jM fs),uJ [AV.str a.1,.str a.2] [.str b.1,.str b.2]with|some p,some q=>if p=q then some q else none|_,_=>none)=_;rw[h];show(if(dp a.1 b.1&&(dp a.2 b.2&&true))=(dp a.1 b.1&&(dp a.2 b.2&&true))then some (dp a.1 b.1&&(dp a.2 b.2&&true))else none)=_;rw[if_pos rfl,e]
 ·show(jr [AV.str a.1,.str a.2] [.str a.1,.str a.2] (jM fs)).isSome=true;rw[h];rfl
theorem Re.opt {H:AH} {n k:Nat} {α:Type} {g:List α->AV} (hg:g []= .fr 0 k []) (r:Option (List α)):Re H n (lkV false .nsl (r.map g)) H (g (r.getD [])):=by
 cases r with
 |none=>show Re H n .nsl H (g []);rw[hg];exact .nsl
 |some v=>exact .same
def ij {X C:Type} (k:Nat) (B:Obj X C) (R:X->List AV->X->AV->Prop) (args:List AV) (H:AH) (n:Nat) (κ:PK):Prop:=match args with
 |a::ar=>∃x cs x' v H1 c,a= .ptr 0 0/\k<=n/\Res H n ar H1 cs/\B.ok x c/\(∀i o,(B.O c)[i]?=some o->H1.get i=some o)/\R x cs x' v/\∀c',B.ok x' c'->κ v (rf (B.O c') 0 H1) n
 |_=>False
theorem wq {X C:Type} {f:FuncId} {run:List AV->AH->Nat->PK->Prop} (hrun:ai f run) (hic:bW Tryz.prog f=true) (B:Obj X C) {k:Nat} (hk:B.k=k) (hk9:k<1000) {R:X->List AV->X->AV->Prop}
 (h:∀x cs x' v,R x cs x' v->cs.all iH=true/\iH v=true/\∀c,B.ok x c->run (.ptr 0 0::cs) (mkH (bH (B.O c) 0)) k (gj B x' v)):ai f (ij k B R):=fun args H n κ hs φ h0 hp vs K hr hargs hk2=>by
 unfold ij at hs;split at hs
 ·rename_i a ar;obtain⟨x,cs,x',v,H1,c,rfl,hkn,hres,hc,hat,hR,hκ⟩:=hs;obtain⟨w1,us1,q1,e1,r1⟩:=hargs.cons_inv;subst hk;obtain⟨φ1,l1,hr1,ha1⟩:=hres φ h0 hp us1 hr r1;obtain⟨s1,s2,s3⟩:=h x cs x' v hR;have hrun2:=s3 c hc;have id0:∀{o:AO} {N:Nat},ltO B.k o=true->cx (bl (kU 0 B.k) N) o=o:=fun{o N} ho=>(gT (r':=fun b=>b) (m:=B.k) (fun j hj=>(mW hj).trans (Nat.zero_add j)) ho).trans (Gx o)
  have BY:iL H1 n (kU 0 B.k) (B.O c):=⟨qa _ _,by rw[c9,B.len],fun i s o h1 h2=>by
   obtain⟨h3,rfl⟩:=rj h1;obtain⟨_,h4,h5⟩:=B.lt c h2;refine⟨by omega,?_,.inr h4⟩;rw[Nat.zero_add,hat i o h2,id0 h5]⟩
  refine dy (S:=kU 0 B.k) (O:=B.O c) (args0:= .ptr 0 0::cs) (κ:=fun v2 H2 n2=>v2=v/\n2=n/\∃c',B.ok x' c'/\H2=rf (B.O c') 0 H1) hrun.m hic hr1 BY ?_ ?_ (Q:=fun v' H' m=>v'=v/\m=B.k/\∃c',B.ok x' c'/\H'=mkH (bH (B.O c') 0)) ?_ fun u H' n' hq=>?_
  ·rw[q1];refine .cons ?_ ?_
   ·show VR φ1 (.ptr (bl (kU 0 B.k) n 0) 0) w1;rw[mW (B.k0 c)];exact VR.mono l1 _ _ e1
   ·rw[oS s1];exact ha1
  ·intro χ v2 H2 n2 u g hle hg hu ⟨f1,f2,c',f3,f4⟩;subst f1 f2 f4;exact hk2 χ _ _ _ u g (l1.trans hle) hg hu (hκ c' f3)
  ·refine⟨gj B x' v,by rw[c9];exact hrun2,fun u H' n' ⟨H2,c',g1,g2,g3⟩=>⟨v,mkH (bH (B.O c') 0),B.k,fun χ h0 hp w hr hu=>?_,rfl,rfl,c',g2,rfl⟩⟩;obtain⟨ψ1,m1,hr3,hu3⟩:=g1 χ h0 hp w hr hu;obtain⟨ψ2,m2,hr4⟩:=Ej hr3 g3 (by rw[B.len];exact Nat.le_refl _);rw[c9];exact⟨ψ2,⟨fun y q hy e=>m2.1 y q hy (m1.b y q e),fun q e=>m2.2.1 q (m1.z q e),fun q e=>m1.y q (m2.2.2 q e)⟩,hr4,oP m2.2.1 s2 hu3⟩
  ·obtain⟨g1,g2,c',g3,g4⟩:=hq;subst g1 g2 g4;refine⟨B.k,rf (B.O c') 0 H1,by rw[c9];exact Nat.le_refl _,fun y o hy=>?_,(kH (r:=fun b=>b) s2).2,(kH (m:=0) s2).1,by rw[c9];omega,c',g3,rfl⟩;rcases mc hy with⟨i,rfl,i1⟩|⟨i2,i3⟩
   ·obtain⟨j1,j2,j3⟩:=B.lt c' i1;have:=ri (k:=0) (by rw[B.len];omega) i1;rw[Nat.zero_add]at this⊢;exact .inl ⟨i,o,j1,by rw[mW j1,Nat.zero_add],this,j2,j3,(id0 j3).symm⟩
   ·rw[B.len]at i2;exact .inr ⟨by rw[c9];omega,i3,fun q=>by have:=jz q;omega⟩
 ·exact hs.elim
section
variable {K V:Type} [DecidableEq K]
def je (A:List (K×V)) (k:K) (v:V):List (K×V):=match fP k A 0 with
 |none=>A++ [(k,v)]
 |some (i,_)=>A.set i (k,v)
def dQ (A:List (K×V)) (k:K):List (K×V):=match fP k A 0 with
 |none=>A
 |some (i,_)=>A.eraseIdx i
theorem Gz (m:MpC K V) (k:K) (v:V):(m.put k v).A=je m.A k v:=by unfold MpC.put je;split<;>simp_all
theorem wu (m:MpC K V) (k:K):(m.del k).A=dQ m.A k:=by unfold MpC.del dQ;split<;>simp_all
theorem sH {A:List (K×V)} {k:K} (h:aJ A k=none):dQ A k=A:=by
 unfold aJ at h;rw[Option.map_eq_none_iff]at h;unfold dQ;rw[h]
theorem aY {kA:K->AV} {g:V->AV} {kd:TypeDesc} {P:Program} {t kt et:TypeId} {H:AH} {b:Nat} {m:MpC K V} {k:K} {ok:Bool} {z:Value} {x y:AV} {r:Option V} (hk:wm kA kd) (ht:dq P t=some (kt,kd,et)) (hx:x= .map b) (hy:y=kA k) (hb:H.get b=some (m.O kA g)) (hz:cL P et=some z) (hr:aJ m.A k=r):jj P t x y ok H=some (lkV ok (ofV z) (r.map g)):=by subst hr;exact OS hk ht hx hy hb hz
end
theorem lp:∀(A B:List Tx),(bo false A B).length<=A.length
 | [],B=>by rw[fJ];simp
 |a::A,[]=>by rw[fK];simp
 |a::A,b::B=>by
  by_cases h:leS a b=true
  ·by_cases k:leS b a=true
   ·have:=lp A B;rw[mf A B h k];simp only[Bool.false_eq_true,if_false,List.nil_append,List.length_cons];omega
   ·have:=lp A (b::B);rw[me A B h k];simp only[List.length_cons];omega
  ·have:=lp (a::A) B;rw[mg A B h];simpa using this
termination_by A B=>A.length+B.length
theorem GA (V:List Tx) (s:Tx):(zI V s).length<=V.length:=Nat.le_trans (lp _ _) (c7 V)
def gL (l:List Lab):AV:= .fr l.length 2 (cJ l)
def gS (V:List Tx):AV:= .fr V.length 1 (strs V)
structure Ix where
 A:List (Tx×List Lab)
 w:Nat
abbrev IxC:=MpC Tx (List Lab)×MpC Lab (List Tx)×MpC Tx (List Tx)
def ixO (c:IxC):List AO:=[.cells [.map 1,.map 2,.map 3] true,c.1.O kT gL,c.2.1.O kL gS,c.2.2.O kT gS]
def Rows {K:Type} (m:MpC K (List Tx)) (w:Nat):Prop:=∀e∈m.A,e.2.length<=w
structure Mc (x:Ix) (c:IxC):Prop where
 A:c.1.A=x.A
 o1:c.1.Ok
 o2:c.2.1.Ok
 o3:c.2.2.Ok
 r2:Rows c.2.1 x.w
 r3:Rows c.2.2 x.w
 lab:∀e∈x.A,im e.1=true/\dO e.2=true
theorem dw {j:Nat} (k:Tx):ltV j (kT k)=true:=rfl
theorem Cx {j:Nat} (k:Lab):ltV j (kL k)=true:=rfl
theorem Cy {j:Nat} (l:List Lab):ltV j (gL l)=true:=rfl
theorem nk {j:Nat} (V:List Tx):ltV j (gS V)=true:=rfl
def IxB:Obj Ix IxC where
 ok:=Mc
 O:=ixO
 k:=4
 len _:=rfl
 own c o h:=by
  simp only[ixO,List.mem_cons,List.not_mem_nil,or_false]at h;rcases h with rfl|rfl|rfl|rfl
  ·exact⟨rfl,rfl⟩
  ·exact⟨rfl,bg dw Cy⟩
  ·exact⟨rfl,bg Cx nk⟩
  ·exact⟨rfl,bg dw nk⟩
 pos c:=⟨_,_,_,rfl⟩
theorem rp {H:AH} {c:IxC} (h0:H.get 0=some (.cells [.map 1,.map 2,.map 3] true)) (h1:H.get 1=some (c.1.O kT gL)) (h2:H.get 2=some (c.2.1.O kL gS)) (h3:H.get 3=some (c.2.2.O kT gS)):wV H 4 (ixO c) 0:=
 ⟨⟨_,h0,.refl rfl⟩,⟨_,h1,.refl (bg dw Cy)⟩,⟨_,h2,.refl (bg Cx nk)⟩,⟨_,h3,.refl (bg dw nk)⟩,trivial⟩
theorem mkA:dq Tryz.prog 162=some (9,.string,28):=by kernel_rfl
theorem mkN:dq Tryz.prog 164=some (9,.string,58):=by kernel_rfl
theorem mkL:∃fs,dq Tryz.prog 163=some (100,.struct fs,58)/\jM fs=[(1,0),(1,1)]:=⟨Tryz.prog.fieldsOf 100,by kernel_rfl,by kernel_rfl⟩
theorem Ev:cL Tryz.prog 28=some (.slice none 0 0):=by kernel_rfl
theorem zTx:cL Tryz.prog 58=some (.slice none 0 0):=by kernel_rfl
section
variable {K:Type} [DecidableEq K] {m:MpC K (List Tx)} {w:Nat}
theorem Rows.get (h:Rows m w) (k:K):((aJ m.A k).getD []).length<=w:=by
 cases e:aJ m.A k with
 |none=>simp
 |some V=>exact h _ (cW e)
theorem Rows.put (h:Rows m w) {k:K} {V:List Tx} (hV:V.length<=w):Rows (m.put k V) w:=fun e he=>by
 rcases rn he with rfl|he
 ·exact hV
 ·exact h e he
theorem Rows.del (h:Rows m w) {k:K}:Rows (m.del k) w:=fun e he=>h e (zL he)
end
theorem Rows.le {K:Type} {m:MpC K (List Tx)} {w:Nat} (h:Rows m w) {w':Nat} (hw:w<=w'):Rows m w':=fun e he=>Nat.le_trans (h e he) hw
def nw {K:Type} [DecidableEq K] (m:MpC K (List Tx)) (k:K) (V:List Tx):MpC K (List Tx):=if V.length=0 then m.del k else m.put k V
theorem ug {K:Type} [DecidableEq K] {m:MpC K (List Tx)} {w:Nat} {k:K} {V:List Tx} (h:m.Ok) (hr:Rows m w) (hV:V.length<=w):(nw m k V).Ok/\Rows (nw m k V) w:=by
 unfold nw;split
 ·exact⟨h.del k,hr.del⟩
 ·exact⟨h.put k V,hr.put hV⟩
def x7 {K:Type} [DecidableEq K] (kA kS:K->AV) (args:List AV) (H:AH) (n:Nat) (κ:PK):Prop:=match args with
 | [x,y,z]=>∃(b:Nat) (m:MpC K (List Tx)) (k:K) (V:List Tx),x= .map b/\b<n/\n<900000/\y=kS k/\z=gS V/\H.get b=some (m.O kA gS)/\κ (.tup []) (H.set (some ((nw m k V).O kA gS)) aa b) n
 |_=>False
theorem Md {K:Type} [DecidableEq K] {kA kS:K->AV} (hS:∀k,iH (kS k)=true) (hl:∀k j,ltV j (kA k)=true) {f:FuncId} {run:List AV->AH->Nat->PK->Prop} (hrun:ai f run) (hic:bW Tryz.prog f=true)
 (h:∀(m:MpC K (List Tx)) (k:K) (V:List Tx),run [.map 0,kS k,gS V] (mkH [(0,m.O kA gS)]) 1 fun u H' _=>u= .tup []/\H'.get 0=some ((nw m k V).O kA gS)):ai f (x7 kA kS):=fun args H n κ hs φ h0 hp vs K hr hargs hk=>by
 unfold x7 at hs;split at hs
 ·obtain⟨b,m,k,V,rfl,hbn,hn,rfl,rfl,hb,hκ⟩:=hs
  have id1:∀{o:AO} {r:Nat->Nat},(∃m:MpC _ (List Tx),o=m.O kA gS)->cx r o=o:=fun{o r} ⟨m,e⟩=>by
   subst e;exact(gT (m:=0) (fun c hc=>absurd hc (Nat.not_lt_zero c)) (bg (fun k=>hl k 0) nk)).trans (Gx _)
  refine dy (S:=[b]) (O:=[m.O kA gS]) (args0:=[.map 0,kS k,gS V]) (κ:=κ) hrun hic hr ⟨by simp,rfl,fun i s o h1 h2=>?_⟩ ?_ hk (h m k V) fun u H' n' ⟨e1,e2⟩=>?_
  ·cases i with
   |zero=>injection h1 with h1;injection h2 with h2;subst h1 h2;exact⟨hbn,hb.trans (congrArg some (id1 ⟨m,rfl⟩).symm),.inr rfl⟩
   |succ i=>simp at h1
  ·have e:du (bl [b] n) [.map 0,kS k,gS V]=[.map b,kS k,gS V]:=by simp only[du,(kH (m:=0) (hS k)).1];rfl
   rw[e];exact hargs
  ·subst e1;refine⟨1,H.set (some ((nw m k V).O kA gS)) aa b,Nat.le_refl 1,fun x o hx=>?_,rfl,hκ⟩;rcases PM.aj aa H b x o hx with⟨rfl,h2⟩|⟨h1,h2⟩
   ·injection h2 with h2;subst h2;exact .inl ⟨0,_,Nat.zero_lt_one,rfl,e2,rfl,bg (fun k=>hl k 1) nk,(id1 ⟨_,rfl⟩).symm⟩
   ·exact .inr ⟨by simp;omega,h2,fun q=>absurd (by simpa using q) h1⟩
 ·exact hs.elim
def kTs (s:Tx):AV:= .ss s
def kLs (y:Lab):AV:= .agg [.ss y.1,.ss y.2]
theorem GB {K:Type} [DecidableEq K] {m:MpC K (List Tx)} {k:K} {V:List Tx} {kA:K->AV}:((V.length:Int)=0->(m.del k).O kA gS=(nw m k V).O kA gS)/\(¬(V.length:Int)=0->(m.put k V).O kA gS=(nw m k V).O kA gS):=
 ⟨fun h=>by unfold nw;rw[if_pos (by omega)],fun h=>by unfold nw;rw[if_neg (by omega)]⟩
theorem SB:ai 127 (x7 kT kTs):=Md (fun _=>rfl) (fun _ _=>rfl) (an az 3 _) (by kernel_rfl) fun m k V=>by
 have q:=GB (m:=m) (k:=k) (V:=V) (kA:=kT)
 conv=>whnf
 refine ag.dec (fun z=>?_) (fun z=>?_)
 ·have e:=q.1 z
  conv=>whnf
  refine Ask.mk _ (sG (m:=m) (g:=gS) bN mkN rfl rfl rfl) ?_
  conv=>whnf
  exact⟨rfl,congrArg some e⟩
 ·have e:=q.2 z
  conv=>whnf
  refine Ask.mk _ (wo (m:=m) (g:=gS) bN mkN rfl rfl rfl rfl) ?_
  conv=>whnf
  exact⟨rfl,congrArg some e⟩
theorem SC:ai 125 (x7 kL kLs):=Md (fun _=>rfl) (fun _ _=>rfl) (an az 3 _) (by kernel_rfl) fun m k V=>by
 have q:=GB (m:=m) (k:=k) (V:=V) (kA:=kL);obtain⟨fs,tL,pL⟩:=mkL
 conv=>whnf
 refine ag.dec (fun z=>?_) (fun z=>?_)
 ·have e:=q.1 z
  conv=>whnf
  refine Ask.mk _ (sG (m:=m) (g:=gS) (Gy pL) tL rfl rfl rfl) ?_
  conv=>whnf
  exact⟨rfl,congrArg some e⟩
 ·have e:=q.2 z
  conv=>whnf
  refine Ask.mk _ (wo (m:=m) (g:=gS) (Gy pL) tL rfl rfl rfl rfl) ?_
  conv=>whnf
  exact⟨rfl,congrArg some e⟩
noncomputable def ixD (k:Tx) (l:List Lab) (i:Nat) (c:IxC):AE×AH:=(mkE [(0,.ptr 0 (0)),(1,.ss (k)),(16,.fr l.length 2 (cJ l)),(17,.si .i64 ((l.length:Int))),(18,.si .i64 ((i:Int)))],mkH [(0,.cells [.map 1,.map 2,.map 3] true),(1,c.1.O kT gL),(2,c.2.1.O kL gS),(3,c.2.2.O kT gS)])
theorem GC {k:Tx} {l:List Lab} {i:Nat} {c:IxC} {p n:Nat} {σ:AE} {H:AH} (hp:p<=4) (e0:ak (pa 0) σ= .ptr 0 (0)) (e1:mk (ak (pa 1) σ)= .ss (k)) (e16:ak (pa 16) σ= .fr l.length 2 (cJ l)) (e17:mk (ak (pa 17) σ)= .si .i64 ((l.length:Int))) (e18:mk (ak (pa 18) σ)= .si .i64 ((i:Int))) (h0:H.get 0=some (.cells [.map 1,.map 2,.map 3] true)) (h1:H.get 1=some (c.1.O kT gL)) (h2:H.get 2=some (c.2.1.O kL gS)) (h3:H.get 3=some (c.2.2.O kT gS)):Cov p σ H n ((ixD k l i c).1,(ixD k l i c).2,4):=
 Cov.ofA hp ⟨.ptr (by decide) e0,.str e1,ah.frE e16,.int e17,.int e18,trivial⟩ ⟨.inl ⟨_,h0,au.refl rfl⟩,.inl ⟨_,h1,au.refl (bg dw Cy)⟩,.inl ⟨_,h2,au.refl (bg Cx nk)⟩,.inl ⟨_,h3,au.refl (bg dw nk)⟩,trivial⟩ rfl
def Me:DT:=[(6,[(some 0,[0]),(some 0,[22]),(some 0,[23]),(some 0,[24]),(some 0,[6]),(some 0,[0]),(some 0,[27]),(some 0,[28]),(some 0,[29]),(some 0,[6]),(some 0,[30,31]),(some 0,[1]),(none,[32,33])]),
 (7,[(some 0,[0]),(some 0,[36]),(some 0,[37]),(some 0,[38]),(some 0,[6]),(some 0,[40]),(some 0,[0]),(some 0,[42]),(some 0,[43]),(some 0,[44]),(some 0,[6]),(some 0,[46]),(some 0,[45,47]),(some 0,[1]),(none,[48,49])])]
noncomputable def KIx:FuncId->EP:=cT 166 (tu Sx) (cT 126 (tu UC) (cT 167 (tu QD) (aw 105 (aZ Cr) (aw 106 (aZ Sz) (aw 124 (aZ Sy) (aw 127 (x7 kT kTs) (aw 125 (x7 kL kLs) evP)))))))
theorem Ew:aW KIx:=a8 (a8 (a8 (ae (ae (ae (ae (ae az SC) SB) QC) UF) Gs) UH.cs (vX _)) VW.cs (vX _)) UD.cs (vX _)
noncomputable def KId:FuncId->EP:=aV 68 Me KIx
theorem Mf:aW KId:=aq Ew (by kernel_rfl) (by kernel_rfl)
def OT (x:Ix) (cs:List AV) (x':Ix) (v:AV):Prop:=∃k,cs=[.ss k]/\x.w<900000/\x'=⟨dQ x.A k,x.w⟩/\v= .sb (aJ x.A k).isSome
theorem wv (x:Ix) (k:Tx) (c:IxC) (hc:Mc x c) (hw9:x.w<900000):ax KId 5 68 [.ptr 0 0,.ss k] (mkH (bH (ixO c) 0)) 4 (gj IxB ⟨dQ x.A k,x.w⟩ (.sb (aJ x.A k).isSome)):=by
 obtain⟨fs,tL,pL⟩:=mkL;obtain⟨h1,o1,o2,o3,r2,r3,hl⟩:=hc;obtain⟨A,w⟩:=x;dsimp only at h1 r2 r3 hl hw9⊢;subst h1;cases hA:aJ c.1.A k with
 |none=>
  have e:=sH hA;have q:gj IxB ⟨dQ c.1.A k,w⟩ (.sb false) (.bool false) (mkH (bH (ixO c) 0)) 4:=⟨_,c,.told rfl,⟨e.symm,o1,o2,o3,r2,r3,by rw[e];exact hl⟩,rp rfl rfl rfl rfl⟩
  conv=>whnf
  refine Ask.mk _ (aY bN mkA rfl rfl rfl Ev hA) ?_
  conv=>whnf
  exact q
 |some l=>
  have hl8:l.length<=8:=qc (hl _ (cW hA)).2
  conv=>whnf
  refine Ask.mk _ (aY bN mkA rfl rfl rfl Ev hA) ?_
  conv=>whnf
  refine Ask.mk _ (aY bN mkA rfl rfl rfl Ev hA) ?_
  conv=>whnf
  refine aS.mk {t:Nat×MpC Lab (List Tx)×MpC Tx (List Tx)//t.1<=l.length/\(t.2.1.Ok/\Rows t.2.1 w)/\t.2.2.Ok/\Rows t.2.2 w} 4 (fun t=>ixD k l t.val.1 (c.1,t.val.2)) (fun t=>l.length-t.val.1) ⟨(0,c.2),Nat.zero_le _,⟨o2,r2⟩,o3,r3⟩ ?_ ?_
  focus
   exact GC (i:=0) (c:=c) (Nat.le_refl 4) rfl rfl rfl rfl rfl rfl rfl rfl rfl
  intro⟨(i,m2,m3),hi,⟨p2,q2⟩,p3,q3⟩;have hi:i<=l.length:=hi;have hw:IntKind.i64.wrap ((i:Int)+1)=((i+1:Nat):Int):=by rw[al (by omega) (by omega)];omega
  conv=>whnf
  refine ag.dec (fun h=>?_) (fun h=>?_)
  focus
   have h3:i<l.length:=Int.ofNat_lt.1 h;have hlt:l.length-(i+1)<l.length-i:=by omega
   have g2:(zI ((aJ m2.A l[i]).getD []) k).length<=w:=Nat.le_trans (GA _ _) (q2.get _);have g3:(zI ((aJ m3.A l[i].1).getD []) k).length<=w:=Nat.le_trans (GA _ _) (q3.get _);have f2:((aJ m2.A l[i]).getD []).length<1000000:=Nat.lt_of_le_of_lt (q2.get _) (by omega);have f3:((aJ m3.A l[i].1).getD []).length<1000000:=Nat.lt_of_le_of_lt (q3.get _) (by omega);have y2:=ug (k:=l[i]) p2 q2 g2;have y3:=ug (k:=l[i].1) p3 q3 g3
   conv=>whnf
   refine Idx.mk i rfl h3 ?_
   conv=>whnf
   refine ay (ot h3 rfl) ?_
   conv=>whnf
   refine Ask.mk _ (aY (m:=m2) (g:=gS) (k:=l[i]) (Gy pL) tL rfl rfl rfl zTx rfl) ?_
   conv=>whnf
   refine⟨_,_,.cons (.opt (g:=gS) rfl _) (.cons .same .nil),⟨_,_,rfl,f2,rfl⟩,?_⟩
   conv=>whnf
   refine⟨2,m2,l[i],_,rfl,by decide,by decide,rfl,rfl,rfl,?_⟩
   conv=>whnf
   refine Ask.mk _ (aY (m:=m3) (g:=gS) (k:=l[i].1) bN mkN rfl rfl rfl zTx rfl) ?_
   conv=>whnf
   refine⟨_,_,.cons (.opt (g:=gS) rfl _) (.cons .same .nil),⟨_,_,rfl,f3,rfl⟩,?_⟩
   conv=>whnf
   refine⟨3,m3,l[i].1,_,rfl,by decide,by decide,rfl,rfl,rfl,?_⟩
   conv=>whnf
   exact⟨⟨(i+1,nw m2 l[i] (zI ((aJ m2.A l[i]).getD []) k),nw m3 l[i].1 (zI ((aJ m3.A l[i].1).getD []) k)),h3,y2,y3⟩,hlt,GC (i:=i+1) (c:=(c.1,nw m2 l[i] (zI ((aJ m2.A l[i]).getD []) k),nw m3 l[i].1 (zI ((aJ m3.A l[i].1).getD []) k))) (Nat.le_refl 4) rfl rfl rfl rfl (congrArg (AV.si .i64) hw) rfl rfl rfl rfl⟩
  have e:(c.1.del k).A=dQ c.1.A k:=wu _ _;have q:Mc ⟨dQ c.1.A k,w⟩ (c.1.del k,m2,m3):=⟨e,o1.del k,p2,p3,q2,q3,fun y hy=>hl y (zL (by rw[e];exact hy))⟩
  conv=>whnf
  refine Ask.mk _ (sG (m:=c.1) bN mkA rfl rfl rfl) ?_
  conv=>whnf
  exact⟨_,(c.1.del k,m2,m3),.told rfl,q,rp rfl rfl rfl rfl⟩
theorem Mg:ai 68 (dS 4 IxB OT):=gx Mf 5 (by kernel_rfl) IxB rfl (by decide) fun x cs x' v ⟨k,h1,h2,h3,h4⟩=>by subst h1 h3 h4;exact⟨rfl,rfl,fun c hc=>wv x k c hc h2⟩
theorem Mh:ai 68 (ij 4 IxB OT):=wq (an Mf 5 _) (by kernel_rfl) IxB rfl (by decide) fun x cs x' v ⟨k,h1,h2,h3,h4⟩=>by subst h1 h3 h4;exact⟨rfl,rfl,fun c hc=>wv x k c hc h2⟩
theorem Re.SD {H:AH} {n b j m k x:Nat} {l s:List AV} {z:Bool} {u:AV} (h1:u= .rw b 0 j k x) (hj:j=m) (hb:H.get b=some (.cells l z)) (hs:s.all flat.flat1=true) (hsl:s.length=m*k) (hmk:l.map mk=s.map mk) (hx:x≠4:=by decide):Re H n u (H.set none aa b) (.fr m k s):=by subst h1 hj;exact Re.row hb hs hsl hmk hx
def IM (x:Ix) (cs:List AV) (v:AV):Prop:=∃k,cs=[.ss k]/\v= .sb (aJ x.A k).isSome
theorem rq:ai 84 (dI 4 IxB IM):=(gx az 3 (by kernel_rfl) IxB rfl (by decide) fun x cs x' v ⟨h0,k,h1,h2⟩=>by
 subst h0 h1 h2;refine⟨rfl,rfl,fun c hc=>?_⟩;have hA:=hc.A;obtain⟨A,w⟩:=x';dsimp only at hA;subst hA;cases hA:aJ c.1.A k with
 |none=>
  have q:gj IxB ⟨c.1.A,w⟩ (.sb false) (.bool false) (mkH (bH (ixO c) 0)) 4:=⟨_,c,.told rfl,hc,rp rfl rfl rfl rfl⟩
  conv=>whnf
  refine Ask.mk _ (aY (m:=c.1) (g:=gL) bN mkA rfl rfl rfl Ev hA) ?_
  conv=>whnf
  exact q
 |some l=>
  have q:gj IxB ⟨c.1.A,w⟩ (.sb true) (.bool true) (mkH (bH (ixO c) 0)) 4:=⟨_,c,.told rfl,hc,rp rfl rfl rfl rfl⟩
  conv=>whnf
  refine Ask.mk _ (aY (m:=c.1) (g:=gL) bN mkA rfl rfl rfl Ev hA) ?_
  conv=>whnf
  exact q).ol
def UI (x:Ix) (cs:List AV) (v:AV):Prop:=∃k,cs=[.ss k]/\v=gL ((aJ x.A k).getD [])
theorem OU:ai 87 (dI 4 IxB UI):=(gx az 3 (by kernel_rfl) IxB rfl (by decide) fun x cs x' v ⟨h0,k,h1,h2⟩=>by
 subst h0 h1 h2;refine⟨rfl,rfl,fun c hc=>?_⟩;have hA:=hc.A;have hlab:=hc.lab;obtain⟨A,w⟩:=x';dsimp only at hA hlab;subst hA;cases hA:aJ c.1.A k with
 |none=>
  conv=>whnf
  refine Ask.mk _ (aY (m:=c.1) (g:=gL) bN mkA rfl rfl rfl Ev hA) ?_
  conv=>whnf
  exact⟨_,c,.nsl,hc,rp rfl rfl rfl rfl⟩
 |some l=>
  have hl8:l.length<=8:=qc (hlab _ (cW hA)).2;have hbig:(0+l.length)*32<=140737488355328:=by omega
  conv=>whnf
  refine Ask.mk _ (aY (m:=c.1) (g:=gL) bN mkA rfl rfl rfl Ev hA) ?_
  conv=>whnf
  refine bC.grow 2 32 _ _ _ _ _ _ UG .fr (jB l) (Cp l) .nsl hbig ?_
  conv=>whnf
  exact⟨_,c,Re.SD rfl (Nat.zero_add _) rfl (oV l) (jB l) rfl,hc,rp rfl rfl rfl rfl⟩).ol
noncomputable def sI (x:Ix) (k:Tx) (l:List Lab):Ix×AV:=if(im k&&dO l)=true then(⟨je (dQ x.A k) k (dJ l),x.w+8⟩,.si .i64 0)else(x,.si .i64 1)
def UJ (x:Ix) (cs:List AV) (x':Ix) (v:AV):Prop:=∃k l r,cs=[.ss k,gL l]/\l.length<=1000/\x.w<800000/\sI x k l=r/\x'=r.1/\v=r.2/\iH v=true
def OV:DT:=[(6,[(some 0,[0]),(some 0,[24]),(some 0,[25]),(some 0,[26]),(some 0,[1]),(some 0,[2]),(none,[29])]),
 (10,[(some 0,[0]),(some 0,[37]),(some 0,[38]),(some 0,[39]),(some 0,[8]),(some 0,[0]),(some 0,[42]),(some 0,[43]),(some 0,[44]),(some 0,[8]),(some 0,[45,46]),(some 0,[1]),(none,[47,48])]),
 (11,[(some 0,[0]),(some 0,[51]),(some 0,[52]),(some 0,[53]),(some 0,[8]),(some 0,[55]),(some 0,[0]),(some 0,[57]),(some 0,[58]),(some 0,[59]),(some 0,[8]),(some 0,[61]),(some 0,[60,62]),(some 0,[1]),(none,[63,64])])]
noncomputable def KIs:FuncId->EP:=aV 107 OV (aw 68 (ij 4 IxB OT) KIx)
theorem SF:aW KIs:=aq (ae Ew Mh) (by kernel_rfl) (by kernel_rfl)
theorem V0 {H:AH} {c:IxC} (h0:H.get 0=some (.cells [.map 1,.map 2,.map 3] true)) (h1:H.get 1=some (c.1.O kT gL)) (h2:H.get 2=some (c.2.1.O kL gS)) (h3:H.get 3=some (c.2.2.O kT gS)):∀i o,(ixO c)[i]?=some o->H.get i=some o
 |0,o,h=>by injection h with h;subst h;exact h0
 |1,o,h=>by injection h with h;subst h;exact h1
 |2,o,h=>by injection h with h;subst h;exact h2
 |3,o,h=>by injection h with h;subst h;exact h3
 |i+4,o,h=>by simp[ixO]at h
noncomputable def ixS (k:Tx) (l:List Lab) (i:Nat) (c:IxC):AE×AH:=(mkE [(0,.ptr 0 (0)),(1,.ss (k)),(31,.fr l.length 2 (cJ l)),(32,.si .i64 ((l.length:Int))),(33,.si .i64 ((i:Int)))],mkH [(0,.cells [.map 1,.map 2,.map 3] true),(1,c.1.O kT gL),(2,c.2.1.O kL gS),(3,c.2.2.O kT gS)])
theorem GD {k:Tx} {l:List Lab} {i:Nat} {c:IxC} {p n:Nat} {σ:AE} {H:AH} (hp:p<=4) (e0:ak (pa 0) σ= .ptr 0 (0)) (e1:mk (ak (pa 1) σ)= .ss (k)) (e31:ak (pa 31) σ= .fr l.length 2 (cJ l)) (e32:mk (ak (pa 32) σ)= .si .i64 ((l.length:Int))) (e33:mk (ak (pa 33) σ)= .si .i64 ((i:Int))) (h0:H.get 0=some (.cells [.map 1,.map 2,.map 3] true)) (h1:H.get 1=some (c.1.O kT gL)) (h2:H.get 2=some (c.2.1.O kL gS)) (h3:H.get 3=some (c.2.2.O kT gS)):Cov p σ H n ((ixS k l i c).1,(ixS k l i c).2,4):=
 Cov.ofA hp ⟨.ptr (by decide) e0,.str e1,ah.frE e31,.int e32,.int e33,trivial⟩ ⟨.inl ⟨_,h0,au.refl rfl⟩,.inl ⟨_,h1,au.refl (bg dw Cy)⟩,.inl ⟨_,h2,au.refl (bg Cx nk)⟩,.inl ⟨_,h3,au.refl (bg dw nk)⟩,trivial⟩ rfl
theorem IN (x:Ix) (k:Tx) (l:List Lab) (c:IxC) (hc:Mc x c) (hl:l.length<=1000) (hw9:x.w<800000) {r:Ix×AV} (hr:sI x k l=r):ax KIs 5 107 [.ptr 0 0,.ss k,gL l] (mkH (bH (ixO c) 0)) 4 (gj IxB r.1 r.2):=by
 have no:(im k&&dO l)=false->gj IxB r.1 r.2 (.int .i64 1) (mkH (bH (ixO c) 0)) 4:=fun e=>by
  subst hr;unfold sI;rw[e];exact⟨_,c,.told rfl,hc,rp rfl rfl rfl rfl⟩
 have n1:im k=false->gj IxB r.1 r.2 (.int .i64 1) (mkH (bH (ixO c) 0)) 4:=fun e=>no (by rw[e];rfl)
 have n2:dO l=false->gj IxB r.1 r.2 (.int .i64 1) (mkH (bH (ixO c) 0)) 4:=fun e=>no (by rw[e,Bool.and_false])
 conv=>whnf
 refine⟨_,_,_,.cons .same .nil,⟨k,rfl,rfl⟩,?_⟩
 conv=>whnf
 refine ag.nsb (fun z1=>?_) (fun z1=>?_)
 focus
  have q:=n1 z1
  conv=>whnf
  exact q
 conv=>whnf
 refine⟨_,_,_,.cons .same .nil,⟨l,rfl,hl,rfl⟩,?_⟩
 conv=>whnf
 refine ag.nsb (fun z2=>?_) (fun z2=>?_)
 focus
  have q:=n2 z2
  conv=>whnf
  exact q
 have hr:r=(⟨je (dQ x.A k) k (dJ l),x.w+8⟩,.si .i64 0):=by rw[<-hr];unfold sI;rw[z1,z2];rfl
 have hl8:l.length<=8:=qc z2;have hw90:x.w<900000:=by omega
 subst hr;clear no n1 n2;obtain⟨fs,tL,pL⟩:=mkL
 conv=>whnf
 refine⟨x,[.ss k],_,_,_,c,rfl,by decide,.cons .same .nil,hc,V0 rfl rfl rfl rfl,⟨k,rfl,hw90,rfl,rfl⟩,fun c1 hc1=>?_⟩;have hA1:c1.1.A=dQ x.A k:=hc1.A
 conv=>whnf
 refine⟨_,_,.cons .same .nil,⟨l,rfl,hl,rfl⟩,?_⟩
 conv=>whnf
 refine Ask.mk _ (wo (m:=c1.1) (g:=gL) (v:=dJ l) (k:=k) bN mkA rfl rfl (congrArg (fun n=>AV.fr n 2 (cJ (dJ l))) (qe l).length_eq.symm) rfl) ?_
 conv=>whnf
 refine aS.mk {t:Nat×MpC Lab (List Tx)×MpC Tx (List Tx)//t.1<=l.length/\(t.2.1.Ok/\Rows t.2.1 (x.w+t.1))/\t.2.2.Ok/\Rows t.2.2 (x.w+t.1)} 4 (fun t=>ixS k l t.val.1 (c1.1.put k (dJ l),t.val.2)) (fun t=>l.length-t.val.1) ⟨(0,c1.2),Nat.zero_le _,⟨hc1.o2,hc1.r2⟩,hc1.o3,hc1.r3⟩ ?_ ?_
 focus
  exact GD (i:=0) (c:=(c1.1.put k (dJ l),c1.2)) (Nat.le_refl 4) rfl rfl rfl rfl rfl rfl rfl rfl rfl
 intro⟨(i,m2,m3),hi,⟨p2,q2⟩,p3,q3⟩;have hi:i<=l.length:=hi;have q2:Rows m2 (x.w+i):=q2;have q3:Rows m3 (x.w+i):=q3;have hw:IntKind.i64.wrap ((i:Int)+1)=((i+1:Nat):Int):=by rw[al (by omega) (by omega)];omega
 conv=>whnf
 refine ag.dec (fun h=>?_) (fun h=>?_)
 focus
  have h3:i<l.length:=Int.ofNat_lt.1 h;have hlt:l.length-(i+1)<l.length-i:=by omega
  have b2:=q2.get l[i];have b3:=q3.get l[i].1;have g2:(nu ((aJ m2.A l[i]).getD []) k).length<=x.w+(i+1):=by have:=wi ((aJ m2.A l[i]).getD []) k;omega
  have g3:(nu ((aJ m3.A l[i].1).getD []) k).length<=x.w+(i+1):=by have:=wi ((aJ m3.A l[i].1).getD []) k;omega
  have f2:((aJ m2.A l[i]).getD []).length<1000000:=by omega
  have f3:((aJ m3.A l[i].1).getD []).length<1000000:=by omega
  have y2:=ug (k:=l[i]) p2 (q2.le (w':=x.w+(i+1)) (by omega)) g2;have y3:=ug (k:=l[i].1) p3 (q3.le (w':=x.w+(i+1)) (by omega)) g3;clear b2 b3
  conv=>whnf
  refine Idx.mk i rfl h3 ?_
  conv=>whnf
  refine ay (ot h3 rfl) ?_
  conv=>whnf
  refine Ask.mk _ (aY (m:=m2) (g:=gS) (k:=l[i]) (Gy pL) tL rfl rfl rfl zTx rfl) ?_
  conv=>whnf
  refine⟨_,_,.cons (.opt (g:=gS) rfl _) (.cons .same .nil),⟨_,_,rfl,f2,rfl⟩,?_⟩
  conv=>whnf
  refine⟨2,m2,l[i],_,rfl,by decide,by decide,rfl,rfl,rfl,?_⟩
  conv=>whnf
  refine Ask.mk _ (aY (m:=m3) (g:=gS) (k:=l[i].1) bN mkN rfl rfl rfl zTx rfl) ?_
  conv=>whnf
  refine⟨_,_,.cons (.opt (g:=gS) rfl _) (.cons .same .nil),⟨_,_,rfl,f3,rfl⟩,?_⟩
  conv=>whnf
  refine⟨3,m3,l[i].1,_,rfl,by decide,by decide,rfl,rfl,rfl,?_⟩
  conv=>whnf
  exact⟨⟨(i+1,nw m2 l[i] (nu ((aJ m2.A l[i]).getD []) k),nw m3 l[i].1 (nu ((aJ m3.A l[i].1).getD []) k)),h3,y2,y3⟩,hlt,GD (i:=i+1) (c:=(c1.1.put k (dJ l),nw m2 l[i] (nu ((aJ m2.A l[i]).getD []) k),nw m3 l[i].1 (nu ((aJ m3.A l[i].1).getD []) k))) (Nat.le_refl 4) rfl rfl rfl rfl (congrArg (AV.si .i64) hw) rfl rfl rfl rfl⟩
 have e:(c1.1.put k (dJ l)).A=je (dQ x.A k) k (dJ l):=by rw[Gz,hA1]
 have hi8:x.w+i<=x.w+8:=by omega
 have q:Mc ⟨je (dQ x.A k) k (dJ l),x.w+8⟩ (c1.1.put k (dJ l),m2,m3):=⟨e,hc1.o1.put k _,p2,p3,q2.le hi8,q3.le hi8,fun y hy=>by
  have hy:y∈je (dQ x.A k) k (dJ l):=hy;rw[<-e]at hy;rcases rn hy with rfl|hy
  ·exact⟨z1,(Ct (qe l)).trans z2⟩
  ·rw[hA1]at hy;exact hc1.lab y hy⟩
 conv=>whnf
 exact⟨_,(c1.1.put k (dJ l),m2,m3),.told rfl,q,rp rfl rfl rfl rfl⟩
theorem OW:ai 107 (dS 4 IxB UJ):=gx SF 5 (by kernel_rfl) IxB rfl (by decide) fun x cs x' v ⟨k,l,r,h1,h2,h3,h4,h5,h6,h7⟩=>by subst h1 h5 h6;exact⟨rfl,h7,fun c hc=>IN x k l c hc h2 h3 h4⟩
section
variable {K V:Type}
def iJ (A:List (K×V)) (I:List Nat):List (K×V):=I.filterMap fun i=>A[i]?
def fc (bs:List Nat) (I:List Nat):List Nat:=I.filterMap fun i=>bs[i]?
structure RgI (m:MpC K V) (I:List Nat):Prop where
 nd:I.Nodup
 lt:∀i∈I,i<m.A.length
theorem RgI.nil {m:MpC K V}:RgI m []:=⟨.nil,fun i h=>(by cases h)⟩
theorem RgI.len {m:MpC K V} {I:List Nat} (h:RgI m I):I.length<=m.A.length:=by
 have h2:I.Nodup/\I⊆List.range m.A.length:=⟨h.nd,fun i hi=>List.mem_range.2 (h.lt i hi)⟩;have:=List.Nodup.length_le_of_subset h2.1 h2.2;rwa [List.length_range]at this
theorem Cz {A:List (K×V)} {I:List Nat} {i:Nat} (h:i<A.length):iJ A (I++ [i])=iJ A I++ [A[i]]:=by
 unfold iJ;rw[List.filterMap_append];simp[List.getElem?_eq_getElem h]
theorem oX {bs:List Nat} {I:List Nat} {i x:Nat} (h:bs[i]?=some x):fc bs (I++ [i])=fc bs I++ [x]:=by
 unfold fc;rw[List.filterMap_append];simp[h]
theorem RgI.step {m:MpC K V} {I:List Nat} (h:RgI m I) {i x:Nat} (hl:i<m.A.length) (hx:m.bs[i]?=some x) (hn:x∉fc m.bs I):RgI m (I++ [i])/\i∉I:=by
 have hi:i∉I:=fun q=>hn (List.mem_filterMap.2 ⟨i,q,hx⟩)
 refine⟨⟨?_,fun j hj=>?_⟩,hi⟩
 ·rw[List.nodup_append];exact⟨h.nd,by simp,fun a ha b hb=>by simp at hb;subst hb;exact fun e=>hi (e▸ha)⟩
 ·rcases List.mem_append.1 hj with hj|hj
  ·exact h.lt j hj
  ·simp at hj;subst hj;exact hl
theorem IP (A:List (K×V)):iJ A (List.range A.length)=A:=by
 unfold iJ
 have:∀(n:Nat),n<=A.length->(List.range n).filterMap (fun i=>A[i]?)=A.take n:=fun n=>by
  induction n with
  |zero=>intro _;simp
  |succ n ih=>
   intro hn;rw[List.range_succ,List.filterMap_append,ih (by omega),List.take_succ_eq_append_getElem (by omega)];simp[List.getElem?_eq_getElem (show n<A.length by omega)]
 rw[this _ (Nat.le_refl _),List.take_length]
theorem RgI.tH {m:MpC K V} {I:List Nat} (h:RgI m I) (ho:m.bs.Nodup) (hl:m.bs.length=m.A.length) (ha:∀x∈m.bs,x∈fc m.bs I):(iJ m.A I).Perm m.A/\I.length=m.A.length:=by
 have hp:I.Perm (List.range m.A.length):=(List.perm_ext_iff_of_nodup h.nd List.nodup_range).2 fun i=>by
  refine⟨fun hi=>List.mem_range.2 (h.lt i hi),fun hi=>?_⟩;have hi:=List.mem_range.1 hi;have h1:=ha _ (List.getElem_mem (l:=m.bs) (n:=i) (by omega));obtain⟨j,hj,e⟩:=List.mem_filterMap.1 h1;obtain⟨h3,h4⟩:=List.getElem?_eq_some_iff.1 e;have:j=i:=(List.getElem_inj (h₀:=h3) (h₁:=by omega) ho).1 h4;rwa [<-this]
 refine⟨?_,by rw[hp.length_eq,List.length_range]⟩;have:=hp.filterMap (fun i=>m.A[i]?);rw[show(List.range m.A.length).filterMap (fun i=>m.A[i]?)=m.A from IP m.A]at this;exact this
theorem zM {A:List (K×V)} {I:List Nat} {e:K×V} (h:e∈iJ A I):e∈A:=by
 obtain⟨j,_,e2⟩:=List.mem_filterMap.1 h;exact List.mem_of_getElem? e2
theorem uh {m:MpC K V} {I:List Nat} (h:RgI m I):(iJ m.A I).length=I.length:=by
 have:∀(I:List Nat),(∀i∈I,i<m.A.length)->(iJ m.A I).length=I.length:=fun I=>by
  induction I with
  |nil=>intro _;rfl
  |cons i I ih=>
   intro hl;unfold iJ;rw[List.filterMap_cons];rw[List.getElem?_eq_getElem (hl i List.mem_cons_self)];simp only[List.length_cons];exact congrArg (·+1) (ih fun j hj=>hl j (List.mem_cons_of_mem _ hj))
 exact this I h.lt
end
theorem au.GF {H:AH} {m:Nat} {r:Nat->Nat} {b k:Nat} {seen:List Nat} (hb:b<m) (hr:r b=b):au H m r (.iter b k seen) (.iter b k seen):=
 ⟨⟨rfl,rfl⟩,fun φ ψ p ob hren _ ⟨h0,q,h1,h2⟩=>⟨h0,q,by rw[hren.1 b hb,hr];exact h1,h2⟩⟩
theorem au.b9 {H:AH} {m k:Nat} {r:Nat->Nat} {o:AO} (h:ltO k o=true) (hk:k<=m) (hr:∀b,b<k->r b=b):au H m r o o:=⟨⟨rfl,rfl⟩,fun φ ψ _ _ hren _ ho=>OR.below (m:=k) (fun b _ hb e=>(hren.1 b (Nat.lt_of_lt_of_le hb hk)).trans ((congrArg φ.f (hr b hb)).trans e)) hren.2 h ho⟩
theorem gU {V W:List Tx} (h:V.Perm W):aG V=aG W:=sx (bd V).1 (bd W).1 fun s=>by rw[(bd V).2,(bd W).2];exact h.mem_iff
def UK (x:Ix) (cs:List AV) (v:AV):Prop:=cs=[]/\x.A.length<=900000/\v=gS (aG (x.A.map Prod.fst))
noncomputable def ixK (c:IxC) (I:List Nat) (V:List Tx):AE×AH:=(mkE [(3,.rw 5 0 V.length 1 0),(11,.ptr 4 (0))],mkH [(0,.cells [.map 1,.map 2,.map 3] true),(1,c.1.O kT gL),(2,c.2.1.O kL gS),(3,c.2.2.O kT gS),(4,AO.iter 1 c.1.cl (fc c.1.bs I)),(5,.cells (strs (V)) true)])
theorem GG {c:IxC} {I:List Nat} {V:List Tx} {p n:Nat} {σ:AE} {H:AH} (j5:Nat) (hj:j5≠0/\j5≠1/\j5≠2/\j5≠3/\j5≠4) (hp:p<=4) (e3:ah H 6 (fun b=>if b=5 then j5 else b) (ak (pa 3) σ) (.rw 5 0 V.length 1 0)) (e11:ak (pa 11) σ= .ptr 4 (0)) (h0:H.get 0=some (.cells [.map 1,.map 2,.map 3] true)) (h1:H.get 1=some (c.1.O kT gL)) (h2:H.get 2=some (c.2.1.O kL gS)) (h3:H.get 3=some (c.2.2.O kT gS)) (h4:H.get 4=some (AO.iter 1 c.1.cl (fc c.1.bs I))) (h5:(∃l,H.get j5=some (.cells l true)/\l.map mk=strs (V))∨((V)=[]/\n<=j5)):Cov p σ H n ((ixK c I V).1,(ixK c I V).2,6):=
 Cov.ofB (fun b=>if b=5 then j5 else b) (by omega) (fun b hb=>by repeat' rw[if_neg (by omega)]) ⟨e3,.ptr (by decide) e11,trivial⟩ ⟨.inl ⟨_,h0,au.b9 (k:=4) rfl (by decide) (fun b hb=>if_neg (by omega))⟩,.inl ⟨_,h1,au.b9 (k:=0) (bg dw Cy) (by decide) (fun b hb=>absurd hb (Nat.not_lt_zero b))⟩,.inl ⟨_,h2,au.b9 (k:=0) (bg Cx nk) (by decide) (fun b hb=>absurd hb (Nat.not_lt_zero b))⟩,.inl ⟨_,h3,au.b9 (k:=0) (bg dw nk) (by decide) (fun b hb=>absurd hb (Nat.not_lt_zero b))⟩,.inl ⟨_,h4,au.GF (by decide) rfl⟩,h5.elim (fun⟨l,h,g⟩=> .inl ⟨_,h,au.bz (bZ _) (by rw[g,cV]) (fun q=>q)⟩) (fun h=> .inr ⟨by rw[h.1];rfl,h.2⟩),trivial⟩ rfl (fun x hx y hy=>by simp only[List.mem_cons,List.not_mem_nil,or_false]at hx hy;rcases hx with rfl|rfl|rfl|rfl|rfl|rfl<;>rcases hy with rfl|rfl|rfl|rfl|rfl|rfl<;>simp<;>omega)
theorem Mi:ai 65 (dI 4 IxB UK):=(gx Ew 4 (by kernel_rfl) IxB rfl (by decide) fun x cs x' v ⟨h0,h1,h2,h3⟩=>by
 subst h0 h1 h3;refine⟨rfl,rfl,fun c hc=>?_⟩;have hA:=hc.A;have hl:c.1.A.length<=900000:=by rw[hA];exact h2
 conv=>whnf
 refine aS.mk {I:List Nat//RgI c.1 I} 6 (fun I=>ixK c I.val ((iJ c.1.A I.val).map Prod.fst)) (fun I=>c.1.A.length-I.val.length) ⟨[],.nil⟩ ?_ ?_
 focus
  exact GG (I:=[]) (V:=(iJ c.1.A []).map Prod.fst) (c:=c) 5 (by decide) (Nat.le_refl 4) (.iD rfl) rfl rfl rfl rfl rfl rfl (.inr ⟨rfl,Nat.le_refl _⟩)
 intro⟨I,hI⟩;have hbig:((iJ c.1.A I).map Prod.fst).length+1<=900001:=by rw[List.length_map,uh hI];have:=hI.len;omega
 have hbig2:(((iJ c.1.A I).map Prod.fst).length+1)*16<=140737488355328:=by omega
 have hV:bp (strs ((iJ c.1.A I).map Prod.fst)) 0 (((iJ c.1.A I).map Prod.fst).length*1)=some (strs ((iJ c.1.A I).map Prod.fst)):=bq (by rw[bj,Nat.mul_one])
 conv=>whnf
 refine Nxt.mp 4 1 c.1.cl _ _ _ rfl rfl rfl rfl hc.o1.lt (fun ho=>?_) (fun i e x he hx hn=>?_)
 focus
  obtain⟨p1,p2⟩:=hI.tH hc.o1.nd hc.o1.len ho;have e1:aG ((iJ c.1.A I).map Prod.fst)=aG (x'.A.map Prod.fst):=by rw[<-hA];exact gU (p1.map _)
  have hb:((iJ c.1.A I).map Prod.fst).length<=1000000:=by omega
  conv=>whnf
  refine⟨_,_,_,.cons (.row (l:=strs ((iJ c.1.A I).map Prod.fst)) (z:=true) rfl (bZ _) (by rw[bj,Nat.mul_one]) rfl) .nil,⟨_,rfl,hb,rfl⟩,?_⟩
  conv=>whnf
  exact⟨_,c,by rw[e1];exact .same,hc,rp rfl rfl rfl rfl⟩
 obtain⟨hl2,rfl⟩:=uf he;obtain⟨hI2,hi⟩:=hI.step hl2 hx hn;have hs:fc c.1.bs I++ [x]=fc c.1.bs (I++ [i]):=(oX hx).symm;have hv:(iJ c.1.A I).map Prod.fst++ [c.1.A[i].1]=(iJ c.1.A (I++ [i])).map Prod.fst:=by rw[Cz hl2,List.map_append];rfl
 have hm:c.1.A.length-(I++ [i]).length<c.1.A.length-I.length:=by have:=hI2.len;simp only[List.length_append,List.length_singleton]at this⊢;omega
 have hcells:(strs ((iJ c.1.A I).map Prod.fst)++ [AV.ss c.1.A[i].1]).map mk=strs ((iJ c.1.A (I++ [i])).map Prod.fst):=by rw[<-hv];exact dA _ _
 have hlen:((iJ c.1.A I).map Prod.fst).length+1=((iJ c.1.A (I++ [i])).map Prod.fst).length:=by rw[<-hv,List.length_append];rfl
 have hnd:=hc.o1.nd
 conv=>whnf
 refine Ent.mp 4 1 c.1.cl i x (fc c.1.bs I) (jd kT gL c.1.A) c.1.bs _ rfl rfl rfl hnd hx he ?_
 conv=>whnf
 refine bC.grow 1 16 _ _ _ _ _ _ tyT (.old rfl) rfl rfl (.rw rfl hV) hbig2 ?_
 conv=>whnf
 exact⟨⟨I++ [i],hI2⟩,hm,GG (I:=I++ [i]) (V:=(iJ c.1.A (I++ [i])).map Prod.fst) (c:=c) 7 (by decide) (Nat.le_refl 4) (.rw (by decide) rfl hlen) rfl rfl rfl rfl rfl (congrArg (fun s=>some (AO.iter 1 c.1.cl s)) hs) (.inl ⟨_,rfl,hcells⟩)⟩).ol
def V2:IxC:=(MpC.no,MpC.no,MpC.no)
theorem OX:ai 51 (vY 4 IxB fun cs y=>cs=[]/\y=⟨[],0⟩):=L5 (an az 3 _) (by kernel_rfl) IxB rfl (by decide) fun cs y ⟨h1,h2⟩=>by
 subst h1 h2;refine⟨rfl,?_⟩
 conv=>whnf
 refine⟨V2,⟨rfl,MpC.Cw,MpC.Cw,MpC.Cw,fun _ h=>(by cases h),fun _ h=>(by cases h),fun _ h=>(by cases h)⟩,Cov.ofR (fun b=>if b=0 then 3 else b-1) (Nat.zero_le _) (fun b hb=>absurd hb (Nat.not_lt_zero b)) (fun x hx=>?_) (fun x hx=>?_) (fun x hx y hy e=>?_)⟩
 ·simp only[List.mem_cons,List.not_mem_nil,or_false]at hx;subst hx;exact .ptr (by decide) rfl
 ·simp only[bH,ixO,IxB,List.mem_cons,List.not_mem_nil,or_false]at hx;rcases hx with rfl|rfl|rfl|rfl
  ·refine⟨by decide,.inl ⟨_,rfl,.cells (Nat.le_refl _) id fun i a' hi=>?_⟩⟩
   match i,hi with
   |0,hi=>injection hi with hi;subst hi;exact⟨_,rfl,.map (by decide) rfl⟩
   |1,hi=>injection hi with hi;subst hi;exact⟨_,rfl,.map (by decide) rfl⟩
   |2,hi=>injection hi with hi;subst hi;exact⟨_,rfl,.map (by decide) rfl⟩
   |i+3,hi=>simp at hi
  ·exact⟨by decide,.inl ⟨_,rfl,.Mb⟩⟩
  ·exact⟨by decide,.inl ⟨_,rfl,.Mb⟩⟩
  ·exact⟨by decide,.inl ⟨_,rfl,.Mb⟩⟩
 ·simp only[bH,ixO,IxB,List.mem_cons,List.not_mem_nil,or_false]at hx hy;rcases hx with rfl|rfl|rfl|rfl<;>rcases hy with rfl|rfl|rfl|rfl<;>simp at e⊢
structure Rl where
 src:Tx
 dst:Tx
 kind:Int
 size:Int
 align:Int
deriving DecidableEq
def ruC (r:Rl):List AV:=[.ss r.src,.ss r.dst,.si .i64 r.kind,.si .i64 r.size,.si .i64 r.align]
def gR (r:Rl):AV:= .agg (ruC r)
def ruL (L:List Rl):List AV:=L.flatMap ruC
theorem rr (r:Rl) (L:List Rl):ruL (r::L)=ruC r++ruL L:=rfl
theorem jf (L:List Rl):(ruL L).length=L.length*5:=by
 induction L with
 |nil=>rfl
 |cons r L ih=>rw[rr];simp only[List.length_append,List.length_cons,ih];show 5+_=_;omega
theorem iI (L:List Rl):(ruL L).all flat.flat1=true:=by
 induction L with
 |nil=>rfl
 |cons r L ih=>rw[rr,List.all_append,ih];rfl
theorem dd (L:List Rl):(ruL L).map mk=ruL L:=by
 induction L with
 |nil=>rfl
 |cons r L ih=>rw[rr,List.map_append,ih];rfl
theorem wx (L:List Rl) (r:Rl):(ruL L++ruC r).map mk=ruL (L++ [r]):=by
 have:ruL (L++ [r])=ruL L++ruC r:=by
  show(L++ [r]).flatMap ruC=_;rw[List.flatMap_append];simp[ruL]
 rw[this,List.map_append,dd];rfl
theorem CA:∀(L:List Rl) (i:Nat),(ruL L).drop (i*5)=ruL (L.drop i)
 |L,0=>by simp
 | [],i+1=>by simp[ruL]
 |r::L,i+1=>by
  rw[show(i+1)*5=i*5+1+1+1+1+1 by omega];exact CA L i
theorem zN {L:List Rl} {i o:Nat} (h:i<L.length) (ho:o=i*5):bp (ruL L) o 5=some (ruC L[i]):=by
 subst ho;unfold bp;rw[Nat.ble_eq_true_of_le (by rw[jf];omega),CA,List.drop_eq_getElem_cons h,rr];rfl
theorem SG:RTy 38 38 5 56:=⟨_,_,_,rfl,rfl,(fun q h=>by cases h),rfl,rfl,rfl,rfl,by decide,by decide⟩
def x8 (r:Rl):Bool:=decide (1<=r.size/\r.size<=1099511627776/\0<=r.align/\r.align<r.size)
def cX (r:Rl):Bool:=x8 r&&(im r.src&&(im r.dst&&(!decide (r.src=r.dst)&&jG r.kind)))
def SH (cs:List AV) (v:AV):Prop:=∃r:Rl,cs=[gR r]/\v= .sb (cX r)
theorem OY {P:Program} {t:TypeId} {H:AH} {xs ys:List AV} {pl:List (Nat×Nat)} {q:Bool} (hp:iu P t=some pl) (hq:jr xs ys pl=some q):wQ P .eql t (.agg xs) (.agg ys) H=some (.bool q):=by
 show pn .eql ((iu P t).bind (jr xs ys))=_;rw[hp];show pn .eql (jr xs ys pl)=_;rw[hq];rfl
theorem UL:iu Tryz.prog 32=some [(1,0),(1,1),(0,2),(0,3),(0,4)]:=by kernel_rfl
noncomputable def KRr:FuncId->EP:=aw 105 (aZ Cr) (aw 149 (qI jG) evP)
theorem SI:aW KRr:=ae (ae az E8) Gs
theorem SJ (r:Rl):jr [.str r.src,.str r.dst,.int .i64 r.kind,.int .i64 r.size,.int .i64 r.align] [.str r.src,.str r.dst,.int .i64 r.kind,.int .i64 (max 1 (min r.size 1099511627776)),.int .i64 (max 0 (min r.align (IntKind.i64.wrap (r.size-1))))] [(1,0),(1,1),(0,2),(0,3),(0,4)]=some (x8 r):=by
 have e:jr [.str r.src,.str r.dst,.int .i64 r.kind,.int .i64 r.size,.int .i64 r.align] [.str r.src,.str r.dst,.int .i64 r.kind,.int .i64 (max 1 (min r.size 1099511627776)),.int .i64 (max 0 (min r.align (IntKind.i64.wrap (r.size-1))))] [(1,0),(1,1),(0,2),(0,3),(0,4)]=some (dp r.src r.src&&(dp r.dst r.dst&&(decide (r.kind=r.kind)&&(decide (r.size=max 1 (min r.size 1099511627776))&&(decide (r.align=max 0 (min r.align (IntKind.i64.wrap (r.size-1))))&&true))))):=by
  simp[jr,nth]
 rw[e,bt.2 rfl,bt.2 rfl,decide_eq_true (rfl:r.kind=r.kind)];congr 1;unfold x8;rw[Bool.eq_iff_iff];simp only[Bool.true_and,Bool.and_true,Bool.and_eq_true,decide_eq_true_eq];constructor
 ·rintro⟨h1,h2⟩;rw[al (by omega) (by omega)]at h2;omega
 ·rintro⟨h1,h2,h3,h4⟩;rw[al (by omega) (by omega)];omega
attribute [local irreducible] iu
theorem UM:ai 89 (aZ SH):=pv SI 4 (by kernel_rfl) fun cs v ⟨r,h1,h2⟩=>by
 subst h1 h2;have q:=SJ r;have t0:x8 r=false->cX r=false:=fun z=>by unfold cX;rw[z];rfl
 have t1:im r.src=false->cX r=false:=fun z=>by unfold cX;rw[z];simp
 have t2:im r.dst=false->cX r=false:=fun z=>by unfold cX;rw[z];simp
 have t3:dp r.src r.dst=true->cX r=false:=fun z=>by unfold cX;rw[decide_eq_true (bt.1 z)];simp
 have t4:x8 r=true->im r.src=true->im r.dst=true->dp r.src r.dst=false->cX r=jG r.kind:=fun a b c d=>by
  have:r.src≠r.dst:=fun e=>by rw[bt.2 e]at d;cases d
  unfold cX;rw[a,b,c,decide_eq_false this];rfl
 refine⟨rfl,rfl,?_⟩
 conv=>whnf
 generalize hE:wQ _ _ _ _ _ _=E;have hE2:E=some (.bool (x8 r)):=hE.symm.trans (OY UL q);clear hE;subst hE2
 conv=>whnf
 refine ag.sb (fun z0=>?_) (fun z0=>?_)
 ·conv=>whnf
  refine⟨_,_,_,.cons .same .nil,⟨_,rfl,rfl⟩,?_⟩
  conv=>whnf
  refine ag.sb (fun z1=>?_) (fun z1=>?_)
  ·conv=>whnf
   refine⟨_,_,_,.cons .same .nil,⟨_,rfl,rfl⟩,?_⟩
   conv=>whnf
   refine ag.sb (fun z2=>?_) (fun z2=>?_)
   ·conv=>whnf
    refine ag.nsb (fun z3=>?_) (fun z3=>?_)
    ·have e:=t4 z0 z1 z2 z3
     conv=>whnf
     exact cF.told (congrArg AV.sb e.symm)
    ·have e:=t3 z3
     conv=>whnf
     exact cF.told (congrArg AV.sb e.symm)
   ·have e:=t2 z2
    conv=>whnf
    exact cF.told (congrArg AV.sb e.symm)
  ·have e:=t1 z1
   conv=>whnf
   exact cF.told (congrArg AV.sb e.symm)
 ·have e:=t0 z0
  conv=>whnf
  exact cF.told (congrArg AV.sb e.symm)
abbrev Gr:=List (Tx×Rl)
abbrev GrC:=MpC Tx Rl
def zR:Rl:=⟨[],[],0,0,0⟩
theorem np {j:Nat} (r:Rl):ltV j (gR r)=true:=rfl
structure IQ (x:Gr) (c:GrC):Prop where
 A:c.A=x
 o:c.Ok
 dst:∀e∈x,e.2.dst=e.1
 lab:∀e∈x,cX e.2=true
def grO (c:GrC):List AO:=[.cells [.map 1] true,c.O kT gR]
def GrB:Obj Gr GrC where
 ok:=IQ
 O:=grO
 k:=2
 len _:=rfl
 own c o h:=by
  simp only[grO,List.mem_cons,List.not_mem_nil,or_false]at h;rcases h with rfl|rfl
  ·exact⟨rfl,rfl⟩
  ·exact⟨rfl,bg dw np⟩
 pos c:=⟨_,_,_,rfl⟩
theorem mh {H:AH} {c:GrC} (h0:H.get 0=some (.cells [.map 1] true)) (h1:H.get 1=some (c.O kT gR)):wV H 2 (grO c) 0:=⟨⟨_,h0,.refl rfl⟩,⟨_,h1,.refl (bg dw np)⟩,trivial⟩
theorem V3 {H:AH} {c:GrC} (h0:H.get 0=some (.cells [.map 1] true)) (h1:H.get 1=some (c.O kT gR)):∀i o,(grO c)[i]?=some o->H.get i=some o
 |0,o,h=>by injection h with h;subst h;exact h0
 |1,o,h=>by injection h with h;subst h;exact h1
 |i+2,o,h=>by simp[grO]at h
theorem mkR:dq Tryz.prog 167=some (9,.string,32):=by kernel_rfl
theorem kN:cL Tryz.prog 32=some (.agg #[.string ⟨#[]⟩,.string ⟨#[]⟩,.int .i64 0,.int .i64 0,.int .i64 0]):=by kernel_rfl
def rul (R:Gr) (d:Tx):Rl:=(aJ R d).getD zR
noncomputable def pkS (N:List Tx) (R:Gr) (s:Tx):List Rl:=(N.filter fun d=>decide ((rul R d).src=s)).map (rul R)
noncomputable def pkF (R:Gr) (so:Rl->Bool):List Rl:=(aG ((R.filter fun e=>so e.2).map fun e=>e.2.src)).flatMap (pkS (aG ((R.filter fun e=>so e.2).map Prod.fst)) R)
theorem zO {R:Gr} {so:Rl->Bool} (hk:(R.map Prod.fst).Nodup) (hd:∀e∈R,e.2.dst=e.1) (r:Rl):r∈pkF R so<->(r.dst,r)∈R/\so r=true:=by
 unfold pkF pkS;simp only[List.mem_flatMap,List.mem_map,List.mem_filter,(bd _).2,decide_eq_true_eq];constructor
 ·rintro⟨s,⟨e,⟨h1,h2⟩,h3⟩,d,⟨⟨e2,⟨h4,h5⟩,h6⟩,h7⟩,h8⟩;subst h6;have h9:aJ R e2.1=some e2.2:=dX hk h4;have:rul R e2.1=e2.2:=by unfold rul;rw[h9];rfl
  rw[this]at h8;subst h8;exact⟨by rw[hd e2 h4];exact h4,h5⟩
 ·rintro⟨h1,h2⟩;have h9:aJ R r.dst=some r:=dX hk h1;have:rul R r.dst=r:=by unfold rul;rw[h9];rfl
  exact⟨r.src,⟨(r.dst,r),⟨h1,h2⟩,rfl⟩,r.dst,⟨⟨(r.dst,r),⟨h1,h2⟩,rfl⟩,by rw[this]⟩,this⟩
theorem m0 {α:Type} {p:α->Bool} (L:List α):(L.filter p).length<=L.length:=List.length_filter_le _ _
theorem ui {α β:Type} {f:α->List β} {b:Nat}:∀{L:List α},(∀x∈L,(f x).length<=b)->(L.flatMap f).length<=L.length*b
 | [],_=>by simp
 |x::L,h=>by
  rw[List.flatMap_cons,List.length_append,List.length_cons,Nat.add_mul,Nat.one_mul];have h1:=h x List.mem_cons_self;have h2:=ui (L:=L) fun y hy=>h y (List.mem_cons_of_mem _ hy)
  omega
theorem wy {N:List Tx} {R:Gr} {s:Tx} {j:Nat} (h:j<N.length):pkS (N.take (j+1)) R s=pkS (N.take j) R s++if(rul R N[j]).src=s then [rul R N[j]]else []:=by
 unfold pkS;rw[List.take_succ_eq_append_getElem h,List.filter_append,List.map_append];congr 1;by_cases q:(rul R N[j]).src=s
 ·simp[q]
 ·simp[q]
theorem ah.b9 {H:AH} {m k:Nat} {r:Nat->Nat} {a:AV} (h:ltV k a=true) (hk:k<=m) (hr:∀b,b<k->r b=b):ah H m r a a:=fun φ ψ v hren _ hv=>VR.below (m:=k) (fun b _ hb e=>(hren.1 b (Nat.lt_of_lt_of_le hb hk)).trans ((congrArg φ.f (hr b hb)).trans e)) hren.2 a v h hv
theorem ah.cY {H:AH} {m k:Nat} {r:Nat->Nat} {a a':AV} (e:a=a') (h:ltV k a'=true) (hk:k<=m) (hr:∀b,b<k->r b=b):ah H m r a a':=by subst e;exact ah.b9 h hk hr
def soV (A:Gr) (so:Rl->Bool) (I:List Nat):Gr:=(iJ A I).filter fun e=>so e.2
theorem wz {A:Gr} {so:Rl->Bool} {I:List Nat} {i:Nat} (h:i<A.length):soV A so (I++ [i])=soV A so I++if so A[i].2=true then [A[i]]else []:=by
 unfold soV;rw[Cz h,List.filter_append];congr 1;by_cases q:so A[i].2=true
 ·simp[q]
 ·simp[q]
noncomputable def KPk:FuncId->EP:=aV 111 [(8,[(some 1000000,[2,6,3,6,2,7,3,7]),(none,[0,1,2,3,4,5,6,7,8,9,10]),(none,[0,1,2,4,5,6,3,7,8,9,10]),(none,[0,1,2,4,5,6,7,3,8,9,10]),(none,[0,1,4,5,6,2,3,7,8,9,10]),(none,[0,1,4,5,6,2,7,3,8,9,10]),(none,[0,1,4,5,6,7,2,3,8,9,10])])] (aw 124 (aZ Sy) evP)
theorem zP:aW KPk:=aq (ae az QC) (by kernel_rfl) (by kernel_rfl)
noncomputable def Mj (c:GrC) (I:List Nat) (V:List Tx) (W:List Tx):AE×AH:=(mkE [(0,.ptr 0 (0)),(1,AV.fn 112 [] []),(5,.rw 8 0 V.length 1 0),(6,.rw 9 0 W.length 1 0),(20,.ptr 2 (0))],mkH [(0,.cells [.map 1] true),(1,c.O kT gR),(2,AO.iter 1 c.cl (fc c.bs I)),(8,.cells (strs (V)) true),(9,.cells (strs (W)) true)])
theorem jg {c:GrC} {I:List Nat} {V:List Tx} {W:List Tx} {p n:Nat} {σ:AE} {H:AH} (j8:Nat) (j9:Nat) (hj:j8≠0/\j8≠1/\j8≠2/\j8≠j9/\j9≠0/\j9≠1/\j9≠2) (hp:p<=2) (e0:ak (pa 0) σ= .ptr 0 (0)) (e1:ah H 10 (fun b=>if b=8 then j8 else if b=9 then j9 else b) (ak (pa 1) σ) (AV.fn 112 [] [])) (e5:ah H 10 (fun b=>if b=8 then j8 else if b=9 then j9 else b) (ak (pa 5) σ) (.rw 8 0 V.length 1 0)) (e6:ah H 10 (fun b=>if b=8 then j8 else if b=9 then j9 else b) (ak (pa 6) σ) (.rw 9 0 W.length 1 0)) (e20:ak (pa 20) σ= .ptr 2 (0)) (h0:H.get 0=some (.cells [.map 1] true)) (h1:H.get 1=some (c.O kT gR)) (h2:H.get 2=some (AO.iter 1 c.cl (fc c.bs I))) (h8:(∃l,H.get j8=some (.cells l true)/\l.map mk=strs (V))∨((V)=[]/\n<=j8)) (h9:(∃l,H.get j9=some (.cells l true)/\l.map mk=strs (W))∨((W)=[]/\n<=j9)):Cov p σ H n ((Mj c I V W).1,(Mj c I V W).2,10):=
 Cov.ofB (fun b=>if b=8 then j8 else if b=9 then j9 else b) (by omega) (fun b hb=>by repeat' rw[if_neg (by omega)]) ⟨.ptr (by decide) e0,e1,e5,e6,.ptr (by decide) e20,trivial⟩ ⟨.inl ⟨_,h0,au.b9 (k:=2) rfl (by decide) (fun b hb=>by rw[if_neg (by omega),if_neg (by omega)])⟩,.inl ⟨_,h1,au.b9 (k:=0) (bg dw np) (by decide) (fun b hb=>absurd hb (Nat.not_lt_zero b))⟩,.inl ⟨_,h2,au.GF (by decide) rfl⟩,h8.elim (fun⟨l,h,g⟩=> .inl ⟨_,h,au.bz (bZ _) (by rw[g,cV]) (fun q=>q)⟩) (fun h=> .inr ⟨by rw[h.1];rfl,h.2⟩),h9.elim (fun⟨l,h,g⟩=> .inl ⟨_,h,au.bz (bZ _) (by rw[g,cV]) (fun q=>q)⟩) (fun h=> .inr ⟨by rw[h.1];rfl,h.2⟩),trivial⟩ rfl (fun x hx y hy=>by simp only[List.mem_cons,List.not_mem_nil,or_false]at hx hy;rcases hx with rfl|rfl|rfl|rfl|rfl<;>rcases hy with rfl|rfl|rfl|rfl|rfl<;>simp<;>omega)
noncomputable def Mk (c:GrC) (N:List Tx) (S:List Tx) (L:List Rl) (i:Nat):AE×AH:=(mkE [(0,.ptr 0 (0)),(5,.fr N.length 1 (strs N)),(9,AV.rw 8 0 L.length 5 0),(41,.fr S.length 1 (strs S)),(42,.si .i64 ((S.length:Int))),(43,.si .i64 ((i:Int)))],mkH [(0,.cells [.map 1] true),(1,c.O kT gR),(8,.cells (ruL (L)) true)])
theorem x9 {c:GrC} {N:List Tx} {S:List Tx} {L:List Rl} {i:Nat} {p n:Nat} {σ:AE} {H:AH} (j8:Nat) (hj:j8≠0/\j8≠1) (hp:p<=2) (e0:ak (pa 0) σ= .ptr 0 (0)) (e5:ak (pa 5) σ= .fr N.length 1 (strs N)) (e9:ah H 9 (fun b=>if b=8 then j8 else b) (ak (pa 9) σ) (AV.rw 8 0 L.length 5 0)) (e41:ak (pa 41) σ= .fr S.length 1 (strs S)) (e42:mk (ak (pa 42) σ)= .si .i64 ((S.length:Int))) (e43:mk (ak (pa 43) σ)= .si .i64 ((i:Int))) (h0:H.get 0=some (.cells [.map 1] true)) (h1:H.get 1=some (c.O kT gR)) (h8:(∃l,H.get j8=some (.cells l true)/\l.map mk=ruL (L))∨((L)=[]/\n<=j8)):Cov p σ H n ((Mk c N S L i).1,(Mk c N S L i).2,9):=
 Cov.ofB (fun b=>if b=8 then j8 else b) (by omega) (fun b hb=>by repeat' rw[if_neg (by omega)]) ⟨.ptr (by decide) e0,ah.frE e5,e9,ah.frE e41,.int e42,.int e43,trivial⟩ ⟨.inl ⟨_,h0,au.b9 (k:=2) rfl (by decide) (fun b hb=>by rw[if_neg (by omega)])⟩,.inl ⟨_,h1,au.b9 (k:=0) (bg dw np) (by decide) (fun b hb=>absurd hb (Nat.not_lt_zero b))⟩,h8.elim (fun⟨l,h,g⟩=> .inl ⟨_,h,au.bz (iI _) (by rw[g,dd]) (fun q=>q)⟩) (fun h=> .inr ⟨by rw[h.1];rfl,h.2⟩),trivial⟩ rfl (fun x hx y hy=>by simp only[List.mem_cons,List.not_mem_nil,or_false]at hx hy;rcases hx with rfl|rfl|rfl<;>rcases hy with rfl|rfl|rfl<;>simp<;>omega)
noncomputable def Ml (c:GrC) (N:List Tx) (S:List Tx) (L:List Rl) (s:Tx) (i:Nat) (j:Nat):AE×AH:=(mkE [(0,.ptr 0 (0)),(5,.fr N.length 1 (strs N)),(9,AV.rw 8 0 L.length 5 0),(11,.ss (s)),(41,.fr S.length 1 (strs S)),(42,.si .i64 ((S.length:Int))),(43,.si .i64 ((i:Int))),(47,.fr N.length 1 (strs N)),(48,.si .i64 ((N.length:Int))),(49,.si .i64 ((j:Int)))],mkH [(0,.cells [.map 1] true),(1,c.O kT gR),(8,.cells (ruL (L)) true)])
theorem sJ {c:GrC} {N:List Tx} {S:List Tx} {L:List Rl} {s:Tx} {i:Nat} {j:Nat} {p n:Nat} {σ:AE} {H:AH} (j8:Nat) (hj:j8≠0/\j8≠1) (hp:p<=2) (e0:ak (pa 0) σ= .ptr 0 (0)) (e5:ak (pa 5) σ= .fr N.length 1 (strs N)) (e9:ah H 9 (fun b=>if b=8 then j8 else b) (ak (pa 9) σ) (AV.rw 8 0 L.length 5 0)) (e11:mk (ak (pa 11) σ)= .ss (s)) (e41:ak (pa 41) σ= .fr S.length 1 (strs S)) (e42:mk (ak (pa 42) σ)= .si .i64 ((S.length:Int))) (e43:mk (ak (pa 43) σ)= .si .i64 ((i:Int))) (e47:ak (pa 47) σ= .fr N.length 1 (strs N)) (e48:mk (ak (pa 48) σ)= .si .i64 ((N.length:Int))) (e49:mk (ak (pa 49) σ)= .si .i64 ((j:Int))) (h0:H.get 0=some (.cells [.map 1] true)) (h1:H.get 1=some (c.O kT gR)) (h8:(∃l,H.get j8=some (.cells l true)/\l.map mk=ruL (L))∨((L)=[]/\n<=j8)):Cov p σ H n ((Ml c N S L s i j).1,(Ml c N S L s i j).2,9):=
 Cov.ofB (fun b=>if b=8 then j8 else b) (by omega) (fun b hb=>by repeat' rw[if_neg (by omega)]) ⟨.ptr (by decide) e0,ah.frE e5,e9,.str e11,ah.frE e41,.int e42,.int e43,ah.frE e47,.int e48,.int e49,trivial⟩ ⟨.inl ⟨_,h0,au.b9 (k:=2) rfl (by decide) (fun b hb=>by rw[if_neg (by omega)])⟩,.inl ⟨_,h1,au.b9 (k:=0) (bg dw np) (by decide) (fun b hb=>absurd hb (Nat.not_lt_zero b))⟩,h8.elim (fun⟨l,h,g⟩=> .inl ⟨_,h,au.bz (iI _) (by rw[g,dd]) (fun q=>q)⟩) (fun h=> .inr ⟨by rw[h.1];rfl,h.2⟩),trivial⟩ rfl (fun x hx y hy=>by simp only[List.mem_cons,List.not_mem_nil,or_false]at hx hy;rcases hx with rfl|rfl|rfl<;>rcases hy with rfl|rfl|rfl<;>simp<;>omega)
theorem IS (x:Gr) (c:GrC) (hc:IQ x c) (h1000:c.A.length<=1000):ax KPk 5 53 [.ptr 0 0] (mkH (bH (grO c) 0)) 2 (gj GrB x (.fr (pkF c.A (fun _=>true)).length 5 (ruL (pkF c.A (fun _=>true))))):=by
 obtain⟨so,hso⟩:∃so:Rl->Bool,so=fun _=>true:=⟨_,rfl⟩
 rw[<-hso]
 conv=>whnf
 refine aS.mk {I:List Nat//RgI c I} 10 (fun I=>Mj c I.val ((soV c.A so I.val).map Prod.fst) ((soV c.A so I.val).map fun e=>e.2.src)) (fun I=>c.A.length-I.val.length) ⟨[],.nil⟩ ?_ ?_
 focus
  exact jg (c:=c) (I:=[]) (V:=((soV c.A so []).map Prod.fst)) (W:=((soV c.A so []).map fun e=>e.2.src)) 8 9 (by decide) (Nat.le_refl 2) rfl (ah.cY (k:=3) rfl rfl (by decide) (fun b hb=>by rw[if_neg (by omega),if_neg (by omega)])) (.iD rfl) (.iD rfl) rfl rfl rfl rfl (.inr ⟨rfl,by decide⟩) (.inr ⟨rfl,by decide⟩)
 intro⟨I,hI⟩;have hIl:=hI.len;have hle:(soV c.A so I).length<=I.length:=Nat.le_trans (m0 _) (Nat.le_of_eq (uh hI));have hbV:(((soV c.A so I).map Prod.fst).length+1)*16<=140737488355328:=by rw[List.length_map];omega
 have hbW:(((soV c.A so I).map fun e=>e.2.src).length+1)*16<=140737488355328:=by rw[List.length_map];omega
 have hV:bp (strs ((soV c.A so I).map Prod.fst)) 0 (((soV c.A so I).map Prod.fst).length*1)=some (strs ((soV c.A so I).map Prod.fst)):=bq (by rw[bj,Nat.mul_one]);have hW:bp (strs ((soV c.A so I).map fun e=>e.2.src)) 0 (((soV c.A so I).map fun e=>e.2.src).length*1)=some (strs ((soV c.A so I).map fun e=>e.2.src)):=bq (by rw[bj,Nat.mul_one])
 conv=>whnf
 refine Nxt.mp 2 1 c.cl _ _ _ rfl rfl rfl rfl hc.o.lt (fun ho=>?_) (fun i e x he hx hn=>?_)
 rotate_left
 focus
  obtain⟨hl2,rfl⟩:=uf he;obtain⟨hI2,hi⟩:=hI.step hl2 hx hn;have hs:fc c.bs I++ [x]=fc c.bs (I++ [i]):=(oX hx).symm;have hm:c.A.length-(I++ [i]).length<c.A.length-I.length:=by have:=hI2.len;simp only[List.length_append,List.length_singleton]at this⊢;omega
  have hnd:=hc.o.nd;have e2:=wz (so:=so) (I:=I) hl2
  have yes:so c.A[i].2=true->((strs ((soV c.A so I).map Prod.fst)++ [AV.ss c.A[i].1]).map mk=strs ((soV c.A so (I++ [i])).map Prod.fst)/\((soV c.A so I).map Prod.fst).length+1=((soV c.A so (I++ [i])).map Prod.fst).length)/\(strs ((soV c.A so I).map fun e=>e.2.src)++ [AV.ss c.A[i].2.src]).map mk=strs ((soV c.A so (I++ [i])).map fun e=>e.2.src)/\((soV c.A so I).map fun e=>e.2.src).length+1=((soV c.A so (I++ [i])).map fun e=>e.2.src).length:=fun q=>by
   have eV:(soV c.A so (I++ [i])).map Prod.fst=(soV c.A so I).map Prod.fst++ [c.A[i].1]:=by rw[e2,if_pos q,List.map_append];rfl
   have eW:(soV c.A so (I++ [i])).map (fun e=>e.2.src)=(soV c.A so I).map (fun e=>e.2.src)++ [c.A[i].2.src]:=by rw[e2,if_pos q,List.map_append];rfl
   rw[eV,eW];exact⟨⟨dA _ _,by rw[List.length_append];rfl⟩,dA _ _,by rw[List.length_append];rfl⟩
  have no:so c.A[i].2=false->soV c.A so (I++ [i])=soV c.A so I:=fun q=>by
   rw[e2,q];simp
  clear e2
  conv=>whnf
  refine Ent.mp 2 1 c.cl i x (fc c.bs I) (jd kT gR c.A) c.bs _ rfl rfl rfl hnd hx he ?_
  conv=>whnf
  have q:=yes (by rw[hso])
  conv=>whnf
  refine⟨?_,?_,?_,?_,?_,?_,trivial⟩
  focus
   conv=>whnf
   refine bC.grow 1 16 _ _ _ _ _ _ tyT (.old rfl) rfl rfl (.rw rfl hV) hbV ?_
   conv=>whnf
   refine bC.grow 1 16 _ _ _ _ _ _ tyT (.old rfl) rfl rfl (.rw rfl hW) hbW ?_
   conv=>whnf
   refine⟨⟨I++ [i],hI2⟩,hm,?_⟩;refine jg (c:=c) (I:=I++ [i]) (V:=((soV c.A so (I++ [i])).map Prod.fst)) (W:=((soV c.A so (I++ [i])).map fun e=>e.2.src)) 13 15 ?_ ?_ ?_ ?_ ?_ ?_ ?_ ?_ ?_ ?_ ?_ ?_
   ·exact by decide
   ·exact Nat.le_refl 2
   ·exact rfl
   ·exact ah.cY (k:=3) rfl rfl (by decide) (fun b hb=>by rw[if_neg (by omega),if_neg (by omega)])
   ·exact .rw (by decide) rfl q.1.2
   ·exact .rw (by decide) rfl q.2.2
   ·exact rfl
   ·exact rfl
   ·exact rfl
   ·exact congrArg (fun s=>some (AO.iter 1 c.cl s)) hs
   ·exact .inl ⟨_,rfl,q.1.1⟩
   ·exact .inl ⟨_,rfl,q.2.1⟩
  focus
   conv=>whnf
   refine bC.grow 1 16 _ _ _ _ _ _ tyT (.old rfl) rfl rfl (.rw rfl hV) hbV ?_
   conv=>whnf
   refine bC.grow 1 16 _ _ _ _ _ _ tyT (.old rfl) rfl rfl (.rw rfl hW) hbW ?_
   conv=>whnf
   refine⟨⟨I++ [i],hI2⟩,hm,?_⟩;refine jg (c:=c) (I:=I++ [i]) (V:=((soV c.A so (I++ [i])).map Prod.fst)) (W:=((soV c.A so (I++ [i])).map fun e=>e.2.src)) 13 15 ?_ ?_ ?_ ?_ ?_ ?_ ?_ ?_ ?_ ?_ ?_ ?_
   ·exact by decide
   ·exact Nat.le_refl 2
   ·exact rfl
   ·exact ah.cY (k:=3) rfl rfl (by decide) (fun b hb=>by rw[if_neg (by omega),if_neg (by omega)])
   ·exact .rw (by decide) rfl q.1.2
   ·exact .rw (by decide) rfl q.2.2
   ·exact rfl
   ·exact rfl
   ·exact rfl
   ·exact congrArg (fun s=>some (AO.iter 1 c.cl s)) hs
   ·exact .inl ⟨_,rfl,q.1.1⟩
   ·exact .inl ⟨_,rfl,q.2.1⟩
  focus
   conv=>whnf
   refine bC.grow 1 16 _ _ _ _ _ _ tyT (.old rfl) rfl rfl (.rw rfl hV) hbV ?_
   conv=>whnf
   refine bC.grow 1 16 _ _ _ _ _ _ tyT (.old rfl) rfl rfl (.rw rfl hW) hbW ?_
   conv=>whnf
   refine⟨⟨I++ [i],hI2⟩,hm,?_⟩;refine jg (c:=c) (I:=I++ [i]) (V:=((soV c.A so (I++ [i])).map Prod.fst)) (W:=((soV c.A so (I++ [i])).map fun e=>e.2.src)) 14 15 ?_ ?_ ?_ ?_ ?_ ?_ ?_ ?_ ?_ ?_ ?_ ?_
   ·exact by decide
   ·exact Nat.le_refl 2
   ·exact rfl
   ·exact ah.cY (k:=3) rfl rfl (by decide) (fun b hb=>by rw[if_neg (by omega),if_neg (by omega)])
   ·exact .rw (by decide) rfl q.1.2
   ·exact .rw (by decide) rfl q.2.2
   ·exact rfl
   ·exact rfl
   ·exact rfl
   ·exact congrArg (fun s=>some (AO.iter 1 c.cl s)) hs
   ·exact .inl ⟨_,rfl,q.1.1⟩
   ·exact .inl ⟨_,rfl,q.2.1⟩
  focus
   conv=>whnf
   refine bC.grow 1 16 _ _ _ _ _ _ tyT (.old rfl) rfl rfl (.rw rfl hV) hbV ?_
   conv=>whnf
   refine bC.grow 1 16 _ _ _ _ _ _ tyT (.old rfl) rfl rfl (.rw rfl hW) hbW ?_
   conv=>whnf
   refine⟨⟨I++ [i],hI2⟩,hm,?_⟩;refine jg (c:=c) (I:=I++ [i]) (V:=((soV c.A so (I++ [i])).map Prod.fst)) (W:=((soV c.A so (I++ [i])).map fun e=>e.2.src)) 13 15 ?_ ?_ ?_ ?_ ?_ ?_ ?_ ?_ ?_ ?_ ?_ ?_
   ·exact by decide
   ·exact Nat.le_refl 2
   ·exact rfl
   ·exact ah.cY (k:=3) rfl rfl (by decide) (fun b hb=>by rw[if_neg (by omega),if_neg (by omega)])
   ·exact .rw (by decide) rfl q.1.2
   ·exact .rw (by decide) rfl q.2.2
   ·exact rfl
   ·exact rfl
   ·exact rfl
   ·exact congrArg (fun s=>some (AO.iter 1 c.cl s)) hs
   ·exact .inl ⟨_,rfl,q.1.1⟩
   ·exact .inl ⟨_,rfl,q.2.1⟩
  focus
   conv=>whnf
   refine bC.grow 1 16 _ _ _ _ _ _ tyT (.old rfl) rfl rfl (.rw rfl hV) hbV ?_
   conv=>whnf
   refine bC.grow 1 16 _ _ _ _ _ _ tyT (.old rfl) rfl rfl (.rw rfl hW) hbW ?_
   conv=>whnf
   refine⟨⟨I++ [i],hI2⟩,hm,?_⟩;refine jg (c:=c) (I:=I++ [i]) (V:=((soV c.A so (I++ [i])).map Prod.fst)) (W:=((soV c.A so (I++ [i])).map fun e=>e.2.src)) 14 15 ?_ ?_ ?_ ?_ ?_ ?_ ?_ ?_ ?_ ?_ ?_ ?_
   ·exact by decide
   ·exact Nat.le_refl 2
   ·exact rfl
   ·exact ah.cY (k:=3) rfl rfl (by decide) (fun b hb=>by rw[if_neg (by omega),if_neg (by omega)])
   ·exact .rw (by decide) rfl q.1.2
   ·exact .rw (by decide) rfl q.2.2
   ·exact rfl
   ·exact rfl
   ·exact rfl
   ·exact congrArg (fun s=>some (AO.iter 1 c.cl s)) hs
   ·exact .inl ⟨_,rfl,q.1.1⟩
   ·exact .inl ⟨_,rfl,q.2.1⟩
  focus
   conv=>whnf
   refine bC.grow 1 16 _ _ _ _ _ _ tyT (.old rfl) rfl rfl (.rw rfl hV) hbV ?_
   conv=>whnf
   refine bC.grow 1 16 _ _ _ _ _ _ tyT (.old rfl) rfl rfl (.rw rfl hW) hbW ?_
   conv=>whnf
   refine⟨⟨I++ [i],hI2⟩,hm,?_⟩;refine jg (c:=c) (I:=I++ [i]) (V:=((soV c.A so (I++ [i])).map Prod.fst)) (W:=((soV c.A so (I++ [i])).map fun e=>e.2.src)) 14 15 ?_ ?_ ?_ ?_ ?_ ?_ ?_ ?_ ?_ ?_ ?_ ?_
   ·exact by decide
   ·exact Nat.le_refl 2
   ·exact rfl
   ·exact ah.cY (k:=3) rfl rfl (by decide) (fun b hb=>by rw[if_neg (by omega),if_neg (by omega)])
   ·exact .rw (by decide) rfl q.1.2
   ·exact .rw (by decide) rfl q.2.2
   ·exact rfl
   ·exact rfl
   ·exact rfl
   ·exact congrArg (fun s=>some (AO.iter 1 c.cl s)) hs
   ·exact .inl ⟨_,rfl,q.1.1⟩
   ·exact .inl ⟨_,rfl,q.2.1⟩
 have hd:∀e∈c.A,e.2.dst=e.1:=fun e he=>hc.dst e (by rw[<-hc.A];exact he)
 obtain⟨p1,p2⟩:=hI.tH hc.o.nd hc.o.len ho;have pp:(soV c.A so I).Perm (c.A.filter fun e=>so e.2):=p1.filter _;have eN:=gU (pp.map Prod.fst);have eS:=gU (pp.map fun e=>e.2.src);have lV:((soV c.A so I).map Prod.fst).length<=1000000:=by rw[List.length_map];omega
 have lW:((soV c.A so I).map fun e=>e.2.src).length<=1000000:=by rw[List.length_map];omega
 obtain⟨N,hN⟩:∃N,N=aG ((soV c.A so I).map Prod.fst):=⟨_,rfl⟩;obtain⟨S,hS⟩:∃S,S=aG ((soV c.A so I).map fun e=>e.2.src):=⟨_,rfl⟩;have lN:N.length<=1000:=by rw[hN];have:=c7 ((soV c.A so I).map Prod.fst);rw[List.length_map]at this;omega
 have lS:S.length<=1000:=by rw[hS];have:=c7 ((soV c.A so I).map fun e=>e.2.src);rw[List.length_map]at this;omega
 have gN:∀d∈N,∃r,aJ c.A d=some r:=fun d hd=>by
  rw[hN,(bd _).2,List.mem_map]at hd;obtain⟨e,he,rfl⟩:=hd;exact⟨e.2,dX hc.o.key (zM (List.mem_filter.1 he).1)⟩
 have fin:S.flatMap (pkS N c.A)=pkF c.A so:=by rw[hN,hS,eN,eS];rfl
 have vN:AV.fr N.length 1 (strs N)= .fr (aG ((soV c.A so I).map Prod.fst)).length 1 (strs (aG ((soV c.A so I).map Prod.fst))):=by rw[hN]
 have vS:AV.fr S.length 1 (strs S)= .fr (aG ((soV c.A so I).map fun e=>e.2.src)).length 1 (strs (aG ((soV c.A so I).map fun e=>e.2.src))):=by rw[hS]
 clear eN eS pp
 conv=>whnf
 refine⟨_,.fr N.length 1 (strs N),_,.cons (.row (l:=strs ((soV c.A so I).map Prod.fst)) (z:=true) rfl (bZ _) (by rw[bj,Nat.mul_one]) rfl) .nil,⟨_,rfl,lV,vN⟩,?_⟩
 conv=>whnf
 refine⟨_,.fr S.length 1 (strs S),_,.cons (.row (l:=strs ((soV c.A so I).map fun e=>e.2.src)) (z:=true) rfl (bZ _) (by rw[bj,Nat.mul_one]) rfl) .nil,⟨_,rfl,lW,vS⟩,?_⟩;have lP:∀(M:List Tx) (s:Tx),(pkS M c.A s).length<=M.length:=fun M s=>by unfold pkS;rw[List.length_map];exact m0 _
 have lL:∀i,((S.take i).flatMap (pkS N c.A)).length<=1000000:=fun i=>by
  have h1:=ui (L:=S.take i) (f:=pkS N c.A) (b:=1000) fun s _=>Nat.le_trans (lP N s) lN
  have h2:(S.take i).length<=1000:=Nat.le_trans (by rw[List.length_take];exact Nat.min_le_right _ _) lS;omega
 conv=>whnf
 refine aS.mk {i:Nat//i<=S.length} 9 (fun i=>Mk c N S ((S.take i.val).flatMap (pkS N c.A)) i.val) (fun i=>S.length-i.val) ⟨0,Nat.zero_le _⟩ ?_ ?_
 focus
  exact x9 (c:=c) (N:=N) (S:=S) (L:=(S.take 0).flatMap (pkS N c.A)) (i:=0) 10 (by decide) (Nat.le_refl 2) rfl rfl (.iD rfl) rfl rfl rfl rfl rfl (.inr ⟨rfl,by decide⟩)
 intro⟨i,hi⟩;have hi:i<=S.length:=hi;have hw:IntKind.i64.wrap ((i:Int)+1)=((i+1:Nat):Int):=by rw[al (by omega) (by omega)];omega
 have lLi:=lL i
 conv=>whnf
 refine ag.dec (fun h=>?_) (fun h=>?_)
 focus
  have h3:i<S.length:=Int.ofNat_lt.1 h;have e3:(S.take (i+1)).flatMap (pkS N c.A)=(S.take i).flatMap (pkS N c.A)++pkS N c.A S[i]:=by rw[List.take_succ_eq_append_getElem h3,List.flatMap_append];simp
  conv=>whnf
  refine Idx.mk i rfl h3 ?_
  conv=>whnf
  refine ay (fI h3 (Nat.mul_one _)) ?_
  conv=>whnf
  refine aS.mk {j:Nat//j<=N.length} 9 (fun j=>Ml c N S ((S.take i).flatMap (pkS N c.A)++pkS (N.take j.val) c.A S[i]) S[i] i j.val) (fun j=>N.length-j.val) ⟨0,Nat.zero_le _⟩ ?_ ?_
  focus
   exact sJ (c:=c) (N:=N) (S:=S) (L:=(S.take i).flatMap (pkS N c.A)++pkS (N.take 0) c.A S[i]) (s:=S[i]) (i:=i) (j:=0) 8 (by decide) (Nat.le_refl 2) rfl rfl (.rw (by decide) rfl (by rw[List.length_append];rfl)) rfl rfl rfl rfl rfl rfl rfl rfl rfl (.inl ⟨_,rfl,by rw[dd];exact congrArg ruL (List.append_nil _).symm⟩)
  intro⟨j,hj⟩;have hj:j<=N.length:=hj;have hwj:IntKind.i64.wrap ((j:Int)+1)=((j+1:Nat):Int):=by rw[al (by omega) (by omega)];omega
  obtain⟨L,hL⟩:∃L,L=(S.take i).flatMap (pkS N c.A)++pkS (N.take j) c.A S[i]:=⟨_,rfl⟩
  have bL:L.length<=1001000:=by
   have h1:=lP (N.take j) S[i];rw[List.length_take]at h1;rw[hL,List.length_append];omega
  rw[<-hL]
  conv=>whnf
  refine ag.dec (fun h=>?_) (fun h=>?_)
  focus
   have h4:j<N.length:=Int.ofNat_lt.1 h;obtain⟨r,hr⟩:=gN N[j] (List.getElem_mem h4);have er:rul c.A N[j]=r:=by unfold rul;rw[hr];rfl
   have sn:=wy (R:=c.A) (s:=S[i]) h4;rw[er]at sn;have hlt:N.length-(j+1)<N.length-j:=by omega
   have y1:dp r.src S[i]=true->L++ [r]=(S.take i).flatMap (pkS N c.A)++pkS (N.take (j+1)) c.A S[i]:=fun q=>by rw[sn,if_pos (bt.1 q),hL,List.append_assoc]
   have y0:dp r.src S[i]=false->L=(S.take i).flatMap (pkS N c.A)++pkS (N.take (j+1)) c.A S[i]:=fun q=>by
    have:r.src≠S[i]:=fun e=>by rw[bt.2 e]at q;cases q
    rw[sn,if_neg this,List.append_nil,hL]
   have hsL:bp (ruL L) 0 (L.length*5)=some (ruL L):=bq (jf L);have hbL:(L.length+1)*56<=140737488355328:=by omega
   clear sn
   conv=>whnf
   refine Idx.mk j rfl h4 ?_
   conv=>whnf
   refine ay (fI h4 (Nat.mul_one _)) ?_
   conv=>whnf
   refine Ask.mk _ (aY (m:=c) (g:=gR) (k:=N[j]) bN mkR rfl rfl rfl kN hr) ?_
   conv=>whnf
   refine ag.sb (fun z=>?_) (fun z=>?_)
   focus
    have q:=y1 z
    conv=>whnf
    refine Ask.mk _ (aY (m:=c) (g:=gR) (k:=N[j]) bN mkR rfl rfl rfl kN hr) ?_
    conv=>whnf
    refine bC.grow 5 56 _ _ _ _ _ _ SG (.old rfl) rfl rfl (.rw rfl hsL) hbL ?_
    conv=>whnf
    exact⟨⟨j+1,h4⟩,hlt,sJ (c:=c) (N:=N) (S:=S) (L:=(S.take i).flatMap (pkS N c.A)++pkS (N.take (j+1)) c.A S[i]) (s:=S[i]) (i:=i) (j:=j+1) 10 (by decide) (Nat.le_refl 2) rfl rfl (.rw (by decide) rfl (by rw[<-q,List.length_append];rfl)) rfl rfl rfl rfl rfl rfl (congrArg (AV.si .i64) hwj) rfl rfl (.inl ⟨_,rfl,by rw[<-q];exact wx L r⟩)⟩
   have q:=y0 z
   conv=>whnf
   exact⟨⟨j+1,h4⟩,hlt,sJ (c:=c) (N:=N) (S:=S) (L:=(S.take i).flatMap (pkS N c.A)++pkS (N.take (j+1)) c.A S[i]) (s:=S[i]) (i:=i) (j:=j+1) 8 (by decide) (Nat.le_refl 2) rfl rfl (.rw (by decide) rfl (by rw[<-q])) rfl rfl rfl rfl rfl rfl (congrArg (AV.si .i64) hwj) rfl rfl (.inl ⟨_,rfl,by rw[<-q];exact dd L⟩)⟩
  have ej:j=N.length:=by have h:¬(j:Int)<(N.length:Int):=h;omega
  have eL:L=(S.take (i+1)).flatMap (pkS N c.A):=by rw[hL,ej,List.take_length,e3]
  conv=>whnf
  exact⟨⟨i+1,h3⟩,by show S.length-(i+1)<S.length-i;omega,x9 (c:=c) (N:=N) (S:=S) (L:=(S.take (i+1)).flatMap (pkS N c.A)) (i:=i+1) 8 (by decide) (Nat.le_refl 2) rfl rfl (.rw (by decide) rfl (by rw[eL])) rfl rfl (congrArg (AV.si .i64) hw) rfl rfl (.inl ⟨_,rfl,by rw[eL];exact dd _⟩)⟩
 have ei:i=S.length:=by have h:¬(i:Int)<(S.length:Int):=h;omega
 have eF:(S.take i).flatMap (pkS N c.A)=pkF c.A so:=by rw[ei,List.take_length,fin]
 conv=>whnf
 exact⟨_,c,Re.SD rfl (congrArg List.length eF) rfl (iI _) (jf _) (by rw[eF]),hc,mh rfl rfl⟩
noncomputable def SK (k:Tx) (c:GrC) (I:List Nat) (V:List Tx) (W:List Tx):AE×AH:=(mkE [(0,.ptr 0 (0)),(1,AV.fn 189 [] [.ptr 2 0]),(5,.rw 8 0 V.length 1 0),(6,.rw 9 0 W.length 1 0),(20,.ptr 3 (0))],mkH [(0,.cells [.map 1] true),(1,c.O kT gR),(2,.cells [.ss k] true),(3,AO.iter 1 c.cl (fc c.bs I)),(8,.cells (strs (V)) true),(9,.cells (strs (W)) true)])
theorem jC {k:Tx} {c:GrC} {I:List Nat} {V:List Tx} {W:List Tx} {p n:Nat} {σ:AE} {H:AH} (j8:Nat) (j9:Nat) (hj:j8≠0/\j8≠1/\j8≠2/\j8≠3/\j8≠j9/\j9≠0/\j9≠1/\j9≠2/\j9≠3) (hp:p<=3) (e0:ak (pa 0) σ= .ptr 0 (0)) (e1:ah H 10 (fun b=>if b=8 then j8 else if b=9 then j9 else b) (ak (pa 1) σ) (AV.fn 189 [] [.ptr 2 0])) (e5:ah H 10 (fun b=>if b=8 then j8 else if b=9 then j9 else b) (ak (pa 5) σ) (.rw 8 0 V.length 1 0)) (e6:ah H 10 (fun b=>if b=8 then j8 else if b=9 then j9 else b) (ak (pa 6) σ) (.rw 9 0 W.length 1 0)) (e20:ak (pa 20) σ= .ptr 3 (0)) (h0:H.get 0=some (.cells [.map 1] true)) (h1:H.get 1=some (c.O kT gR)) (h2:H.get 2=some (.cells [.ss k] true)) (h3:H.get 3=some (AO.iter 1 c.cl (fc c.bs I))) (h8:(∃l,H.get j8=some (.cells l true)/\l.map mk=strs (V))∨((V)=[]/\n<=j8)) (h9:(∃l,H.get j9=some (.cells l true)/\l.map mk=strs (W))∨((W)=[]/\n<=j9)):Cov p σ H n ((SK k c I V W).1,(SK k c I V W).2,10):=
 Cov.ofB (fun b=>if b=8 then j8 else if b=9 then j9 else b) (by omega) (fun b hb=>by repeat' rw[if_neg (by omega)]) ⟨.ptr (by decide) e0,e1,e5,e6,.ptr (by decide) e20,trivial⟩ ⟨.inl ⟨_,h0,au.b9 (k:=2) rfl (by decide) (fun b hb=>by rw[if_neg (by omega),if_neg (by omega)])⟩,.inl ⟨_,h1,au.b9 (k:=0) (bg dw np) (by decide) (fun b hb=>absurd hb (Nat.not_lt_zero b))⟩,.inl ⟨_,h2,au.b9 (k:=0) rfl (by decide) (fun b hb=>absurd hb (Nat.not_lt_zero b))⟩,.inl ⟨_,h3,au.GF (by decide) rfl⟩,h8.elim (fun⟨l,h,g⟩=> .inl ⟨_,h,au.bz (bZ _) (by rw[g,cV]) (fun q=>q)⟩) (fun h=> .inr ⟨by rw[h.1];rfl,h.2⟩),h9.elim (fun⟨l,h,g⟩=> .inl ⟨_,h,au.bz (bZ _) (by rw[g,cV]) (fun q=>q)⟩) (fun h=> .inr ⟨by rw[h.1];rfl,h.2⟩),trivial⟩ rfl (fun x hx y hy=>by simp only[List.mem_cons,List.not_mem_nil,or_false]at hx hy;rcases hx with rfl|rfl|rfl|rfl|rfl|rfl<;>rcases hy with rfl|rfl|rfl|rfl|rfl|rfl<;>simp<;>omega)
noncomputable def SL (k:Tx) (c:GrC) (N:List Tx) (S:List Tx) (L:List Rl) (i:Nat):AE×AH:=(mkE [(0,.ptr 0 (0)),(5,.fr N.length 1 (strs N)),(9,AV.rw 8 0 L.length 5 0),(41,.fr S.length 1 (strs S)),(42,.si .i64 ((S.length:Int))),(43,.si .i64 ((i:Int)))],mkH [(0,.cells [.map 1] true),(1,c.O kT gR),(2,.cells [.ss k] true),(8,.cells (ruL (L)) true)])
theorem CB {k:Tx} {c:GrC} {N:List Tx} {S:List Tx} {L:List Rl} {i:Nat} {p n:Nat} {σ:AE} {H:AH} (j8:Nat) (hj:j8≠0/\j8≠1/\j8≠2) (hp:p<=3) (e0:ak (pa 0) σ= .ptr 0 (0)) (e5:ak (pa 5) σ= .fr N.length 1 (strs N)) (e9:ah H 9 (fun b=>if b=8 then j8 else b) (ak (pa 9) σ) (AV.rw 8 0 L.length 5 0)) (e41:ak (pa 41) σ= .fr S.length 1 (strs S)) (e42:mk (ak (pa 42) σ)= .si .i64 ((S.length:Int))) (e43:mk (ak (pa 43) σ)= .si .i64 ((i:Int))) (h0:H.get 0=some (.cells [.map 1] true)) (h1:H.get 1=some (c.O kT gR)) (h2:H.get 2=some (.cells [.ss k] true)) (h8:(∃l,H.get j8=some (.cells l true)/\l.map mk=ruL (L))∨((L)=[]/\n<=j8)):Cov p σ H n ((SL k c N S L i).1,(SL k c N S L i).2,9):=
 Cov.ofB (fun b=>if b=8 then j8 else b) (by omega) (fun b hb=>by repeat' rw[if_neg (by omega)]) ⟨.ptr (by decide) e0,ah.frE e5,e9,ah.frE e41,.int e42,.int e43,trivial⟩ ⟨.inl ⟨_,h0,au.b9 (k:=2) rfl (by decide) (fun b hb=>by rw[if_neg (by omega)])⟩,.inl ⟨_,h1,au.b9 (k:=0) (bg dw np) (by decide) (fun b hb=>absurd hb (Nat.not_lt_zero b))⟩,.inl ⟨_,h2,au.b9 (k:=0) rfl (by decide) (fun b hb=>absurd hb (Nat.not_lt_zero b))⟩,h8.elim (fun⟨l,h,g⟩=> .inl ⟨_,h,au.bz (iI _) (by rw[g,dd]) (fun q=>q)⟩) (fun h=> .inr ⟨by rw[h.1];rfl,h.2⟩),trivial⟩ rfl (fun x hx y hy=>by simp only[List.mem_cons,List.not_mem_nil,or_false]at hx hy;rcases hx with rfl|rfl|rfl|rfl<;>rcases hy with rfl|rfl|rfl|rfl<;>simp<;>omega)
noncomputable def SM (k:Tx) (c:GrC) (N:List Tx) (S:List Tx) (L:List Rl) (s:Tx) (i:Nat) (j:Nat):AE×AH:=(mkE [(0,.ptr 0 (0)),(5,.fr N.length 1 (strs N)),(9,AV.rw 8 0 L.length 5 0),(11,.ss (s)),(41,.fr S.length 1 (strs S)),(42,.si .i64 ((S.length:Int))),(43,.si .i64 ((i:Int))),(47,.fr N.length 1 (strs N)),(48,.si .i64 ((N.length:Int))),(49,.si .i64 ((j:Int)))],mkH [(0,.cells [.map 1] true),(1,c.O kT gR),(2,.cells [.ss k] true),(8,.cells (ruL (L)) true)])
theorem wA {k:Tx} {c:GrC} {N:List Tx} {S:List Tx} {L:List Rl} {s:Tx} {i:Nat} {j:Nat} {p n:Nat} {σ:AE} {H:AH} (j8:Nat) (hj:j8≠0/\j8≠1/\j8≠2) (hp:p<=3) (e0:ak (pa 0) σ= .ptr 0 (0)) (e5:ak (pa 5) σ= .fr N.length 1 (strs N)) (e9:ah H 9 (fun b=>if b=8 then j8 else b) (ak (pa 9) σ) (AV.rw 8 0 L.length 5 0)) (e11:mk (ak (pa 11) σ)= .ss (s)) (e41:ak (pa 41) σ= .fr S.length 1 (strs S)) (e42:mk (ak (pa 42) σ)= .si .i64 ((S.length:Int))) (e43:mk (ak (pa 43) σ)= .si .i64 ((i:Int))) (e47:ak (pa 47) σ= .fr N.length 1 (strs N)) (e48:mk (ak (pa 48) σ)= .si .i64 ((N.length:Int))) (e49:mk (ak (pa 49) σ)= .si .i64 ((j:Int))) (h0:H.get 0=some (.cells [.map 1] true)) (h1:H.get 1=some (c.O kT gR)) (h2:H.get 2=some (.cells [.ss k] true)) (h8:(∃l,H.get j8=some (.cells l true)/\l.map mk=ruL (L))∨((L)=[]/\n<=j8)):Cov p σ H n ((SM k c N S L s i j).1,(SM k c N S L s i j).2,9):=
 Cov.ofB (fun b=>if b=8 then j8 else b) (by omega) (fun b hb=>by repeat' rw[if_neg (by omega)]) ⟨.ptr (by decide) e0,ah.frE e5,e9,.str e11,ah.frE e41,.int e42,.int e43,ah.frE e47,.int e48,.int e49,trivial⟩ ⟨.inl ⟨_,h0,au.b9 (k:=2) rfl (by decide) (fun b hb=>by rw[if_neg (by omega)])⟩,.inl ⟨_,h1,au.b9 (k:=0) (bg dw np) (by decide) (fun b hb=>absurd hb (Nat.not_lt_zero b))⟩,.inl ⟨_,h2,au.b9 (k:=0) rfl (by decide) (fun b hb=>absurd hb (Nat.not_lt_zero b))⟩,h8.elim (fun⟨l,h,g⟩=> .inl ⟨_,h,au.bz (iI _) (by rw[g,dd]) (fun q=>q)⟩) (fun h=> .inr ⟨by rw[h.1];rfl,h.2⟩),trivial⟩ rfl (fun x hx y hy=>by simp only[List.mem_cons,List.not_mem_nil,or_false]at hx hy;rcases hx with rfl|rfl|rfl|rfl<;>rcases hy with rfl|rfl|rfl|rfl<;>simp<;>omega)
theorem CC (x:Gr) (k:Tx) (c:GrC) (hc:IQ x c) (h1000:c.A.length<=1000):ax KPk 5 133 [.ptr 0 0,.ss k] (mkH (bH (grO c) 0)) 2 (gj GrB x (.fr (pkF c.A (fun r=>decide (r.src=k))).length 5 (ruL (pkF c.A (fun r=>decide (r.src=k)))))):=by
 obtain⟨so,hso⟩:∃so:Rl->Bool,so=fun r=>decide (r.src=k):=⟨_,rfl⟩
 rw[<-hso]
 conv=>whnf
 refine aS.mk {I:List Nat//RgI c I} 10 (fun I=>SK k c I.val ((soV c.A so I.val).map Prod.fst) ((soV c.A so I.val).map fun e=>e.2.src)) (fun I=>c.A.length-I.val.length) ⟨[],.nil⟩ ?_ ?_
 focus
  exact jC (c:=c) (I:=[]) (V:=((soV c.A so []).map Prod.fst)) (W:=((soV c.A so []).map fun e=>e.2.src)) 8 9 (by decide) (Nat.le_refl 3) rfl (ah.cY (k:=3) rfl rfl (by decide) (fun b hb=>by rw[if_neg (by omega),if_neg (by omega)])) (.iD rfl) (.iD rfl) rfl rfl rfl rfl rfl (.inr ⟨rfl,by decide⟩) (.inr ⟨rfl,by decide⟩)
 intro⟨I,hI⟩;have hIl:=hI.len;have hle:(soV c.A so I).length<=I.length:=Nat.le_trans (m0 _) (Nat.le_of_eq (uh hI));have hbV:(((soV c.A so I).map Prod.fst).length+1)*16<=140737488355328:=by rw[List.length_map];omega
 have hbW:(((soV c.A so I).map fun e=>e.2.src).length+1)*16<=140737488355328:=by rw[List.length_map];omega
 have hV:bp (strs ((soV c.A so I).map Prod.fst)) 0 (((soV c.A so I).map Prod.fst).length*1)=some (strs ((soV c.A so I).map Prod.fst)):=bq (by rw[bj,Nat.mul_one]);have hW:bp (strs ((soV c.A so I).map fun e=>e.2.src)) 0 (((soV c.A so I).map fun e=>e.2.src).length*1)=some (strs ((soV c.A so I).map fun e=>e.2.src)):=bq (by rw[bj,Nat.mul_one])
 conv=>whnf
 refine Nxt.mp 3 1 c.cl _ _ _ rfl rfl rfl rfl hc.o.lt (fun ho=>?_) (fun i e x he hx hn=>?_)
 rotate_left
 focus
  obtain⟨hl2,rfl⟩:=uf he;obtain⟨hI2,hi⟩:=hI.step hl2 hx hn;have hs:fc c.bs I++ [x]=fc c.bs (I++ [i]):=(oX hx).symm;have hm:c.A.length-(I++ [i]).length<c.A.length-I.length:=by have:=hI2.len;simp only[List.length_append,List.length_singleton]at this⊢;omega
  have hnd:=hc.o.nd;have e2:=wz (so:=so) (I:=I) hl2
  have yes:so c.A[i].2=true->((strs ((soV c.A so I).map Prod.fst)++ [AV.ss c.A[i].1]).map mk=strs ((soV c.A so (I++ [i])).map Prod.fst)/\((soV c.A so I).map Prod.fst).length+1=((soV c.A so (I++ [i])).map Prod.fst).length)/\(strs ((soV c.A so I).map fun e=>e.2.src)++ [AV.ss c.A[i].2.src]).map mk=strs ((soV c.A so (I++ [i])).map fun e=>e.2.src)/\((soV c.A so I).map fun e=>e.2.src).length+1=((soV c.A so (I++ [i])).map fun e=>e.2.src).length:=fun q=>by
   have eV:(soV c.A so (I++ [i])).map Prod.fst=(soV c.A so I).map Prod.fst++ [c.A[i].1]:=by rw[e2,if_pos q,List.map_append];rfl
   have eW:(soV c.A so (I++ [i])).map (fun e=>e.2.src)=(soV c.A so I).map (fun e=>e.2.src)++ [c.A[i].2.src]:=by rw[e2,if_pos q,List.map_append];rfl
   rw[eV,eW];exact⟨⟨dA _ _,by rw[List.length_append];rfl⟩,dA _ _,by rw[List.length_append];rfl⟩
  have no:so c.A[i].2=false->soV c.A so (I++ [i])=soV c.A so I:=fun q=>by
   rw[e2,q];simp
  clear e2
  conv=>whnf
  refine Ent.mp 3 1 c.cl i x (fc c.bs I) (jd kT gR c.A) c.bs _ rfl rfl rfl hnd hx he ?_
  conv=>whnf
  refine ag.sb (fun z=>?_) (fun z=>?_)
  focus
   have q:=yes (by rw[hso];exact decide_eq_true (bt.1 z))
   conv=>whnf
   refine⟨?_,?_,?_,?_,?_,?_,trivial⟩
   focus
    conv=>whnf
    refine bC.grow 1 16 _ _ _ _ _ _ tyT (.old rfl) rfl rfl (.rw rfl hV) hbV ?_
    conv=>whnf
    refine bC.grow 1 16 _ _ _ _ _ _ tyT (.old rfl) rfl rfl (.rw rfl hW) hbW ?_
    conv=>whnf
    refine⟨⟨I++ [i],hI2⟩,hm,?_⟩;refine jC (c:=c) (I:=I++ [i]) (V:=((soV c.A so (I++ [i])).map Prod.fst)) (W:=((soV c.A so (I++ [i])).map fun e=>e.2.src)) 13 15 ?_ ?_ ?_ ?_ ?_ ?_ ?_ ?_ ?_ ?_ ?_ ?_ ?_
    ·exact by decide
    ·exact Nat.le_refl 3
    ·exact rfl
    ·exact ah.cY (k:=3) rfl rfl (by decide) (fun b hb=>by rw[if_neg (by omega),if_neg (by omega)])
    ·exact .rw (by decide) rfl q.1.2
    ·exact .rw (by decide) rfl q.2.2
    ·exact rfl
    ·exact rfl
    ·exact rfl
    ·exact rfl
    ·exact congrArg (fun s=>some (AO.iter 1 c.cl s)) hs
    ·exact .inl ⟨_,rfl,q.1.1⟩
    ·exact .inl ⟨_,rfl,q.2.1⟩
   focus
    conv=>whnf
    refine bC.grow 1 16 _ _ _ _ _ _ tyT (.old rfl) rfl rfl (.rw rfl hV) hbV ?_
    conv=>whnf
    refine bC.grow 1 16 _ _ _ _ _ _ tyT (.old rfl) rfl rfl (.rw rfl hW) hbW ?_
    conv=>whnf
    refine⟨⟨I++ [i],hI2⟩,hm,?_⟩;refine jC (c:=c) (I:=I++ [i]) (V:=((soV c.A so (I++ [i])).map Prod.fst)) (W:=((soV c.A so (I++ [i])).map fun e=>e.2.src)) 13 15 ?_ ?_ ?_ ?_ ?_ ?_ ?_ ?_ ?_ ?_ ?_ ?_ ?_
    ·exact by decide
    ·exact Nat.le_refl 3
    ·exact rfl
    ·exact ah.cY (k:=3) rfl rfl (by decide) (fun b hb=>by rw[if_neg (by omega),if_neg (by omega)])
    ·exact .rw (by decide) rfl q.1.2
    ·exact .rw (by decide) rfl q.2.2
    ·exact rfl
    ·exact rfl
    ·exact rfl
    ·exact rfl
    ·exact congrArg (fun s=>some (AO.iter 1 c.cl s)) hs
    ·exact .inl ⟨_,rfl,q.1.1⟩
    ·exact .inl ⟨_,rfl,q.2.1⟩
   focus
    conv=>whnf
    refine bC.grow 1 16 _ _ _ _ _ _ tyT (.old rfl) rfl rfl (.rw rfl hV) hbV ?_
    conv=>whnf
    refine bC.grow 1 16 _ _ _ _ _ _ tyT (.old rfl) rfl rfl (.rw rfl hW) hbW ?_
    conv=>whnf
    refine⟨⟨I++ [i],hI2⟩,hm,?_⟩;refine jC (c:=c) (I:=I++ [i]) (V:=((soV c.A so (I++ [i])).map Prod.fst)) (W:=((soV c.A so (I++ [i])).map fun e=>e.2.src)) 14 15 ?_ ?_ ?_ ?_ ?_ ?_ ?_ ?_ ?_ ?_ ?_ ?_ ?_
    ·exact by decide
    ·exact Nat.le_refl 3
    ·exact rfl
    ·exact ah.cY (k:=3) rfl rfl (by decide) (fun b hb=>by rw[if_neg (by omega),if_neg (by omega)])
    ·exact .rw (by decide) rfl q.1.2
    ·exact .rw (by decide) rfl q.2.2
    ·exact rfl
    ·exact rfl
    ·exact rfl
    ·exact rfl
    ·exact congrArg (fun s=>some (AO.iter 1 c.cl s)) hs
    ·exact .inl ⟨_,rfl,q.1.1⟩
    ·exact .inl ⟨_,rfl,q.2.1⟩
   focus
    conv=>whnf
    refine bC.grow 1 16 _ _ _ _ _ _ tyT (.old rfl) rfl rfl (.rw rfl hV) hbV ?_
    conv=>whnf
    refine bC.grow 1 16 _ _ _ _ _ _ tyT (.old rfl) rfl rfl (.rw rfl hW) hbW ?_
    conv=>whnf
    refine⟨⟨I++ [i],hI2⟩,hm,?_⟩;refine jC (c:=c) (I:=I++ [i]) (V:=((soV c.A so (I++ [i])).map Prod.fst)) (W:=((soV c.A so (I++ [i])).map fun e=>e.2.src)) 13 15 ?_ ?_ ?_ ?_ ?_ ?_ ?_ ?_ ?_ ?_ ?_ ?_ ?_
    ·exact by decide
    ·exact Nat.le_refl 3
    ·exact rfl
    ·exact ah.cY (k:=3) rfl rfl (by decide) (fun b hb=>by rw[if_neg (by omega),if_neg (by omega)])
    ·exact .rw (by decide) rfl q.1.2
    ·exact .rw (by decide) rfl q.2.2
    ·exact rfl
    ·exact rfl
    ·exact rfl
    ·exact rfl
    ·exact congrArg (fun s=>some (AO.iter 1 c.cl s)) hs
    ·exact .inl ⟨_,rfl,q.1.1⟩
    ·exact .inl ⟨_,rfl,q.2.1⟩
   focus
    conv=>whnf
    refine bC.grow 1 16 _ _ _ _ _ _ tyT (.old rfl) rfl rfl (.rw rfl hV) hbV ?_
    conv=>whnf
    refine bC.grow 1 16 _ _ _ _ _ _ tyT (.old rfl) rfl rfl (.rw rfl hW) hbW ?_
    conv=>whnf
    refine⟨⟨I++ [i],hI2⟩,hm,?_⟩;refine jC (c:=c) (I:=I++ [i]) (V:=((soV c.A so (I++ [i])).map Prod.fst)) (W:=((soV c.A so (I++ [i])).map fun e=>e.2.src)) 14 15 ?_ ?_ ?_ ?_ ?_ ?_ ?_ ?_ ?_ ?_ ?_ ?_ ?_
    ·exact by decide
    ·exact Nat.le_refl 3
    ·exact rfl
    ·exact ah.cY (k:=3) rfl rfl (by decide) (fun b hb=>by rw[if_neg (by omega),if_neg (by omega)])
    ·exact .rw (by decide) rfl q.1.2
    ·exact .rw (by decide) rfl q.2.2
    ·exact rfl
    ·exact rfl
    ·exact rfl
    ·exact rfl
    ·exact congrArg (fun s=>some (AO.iter 1 c.cl s)) hs
    ·exact .inl ⟨_,rfl,q.1.1⟩
    ·exact .inl ⟨_,rfl,q.2.1⟩
   focus
    conv=>whnf
    refine bC.grow 1 16 _ _ _ _ _ _ tyT (.old rfl) rfl rfl (.rw rfl hV) hbV ?_
    conv=>whnf
    refine bC.grow 1 16 _ _ _ _ _ _ tyT (.old rfl) rfl rfl (.rw rfl hW) hbW ?_
    conv=>whnf
    refine⟨⟨I++ [i],hI2⟩,hm,?_⟩;refine jC (c:=c) (I:=I++ [i]) (V:=((soV c.A so (I++ [i])).map Prod.fst)) (W:=((soV c.A so (I++ [i])).map fun e=>e.2.src)) 14 15 ?_ ?_ ?_ ?_ ?_ ?_ ?_ ?_ ?_ ?_ ?_ ?_ ?_
    ·exact by decide
    ·exact Nat.le_refl 3
    ·exact rfl
    ·exact ah.cY (k:=3) rfl rfl (by decide) (fun b hb=>by rw[if_neg (by omega),if_neg (by omega)])
    ·exact .rw (by decide) rfl q.1.2
    ·exact .rw (by decide) rfl q.2.2
    ·exact rfl
    ·exact rfl
    ·exact rfl
    ·exact rfl
    ·exact congrArg (fun s=>some (AO.iter 1 c.cl s)) hs
    ·exact .inl ⟨_,rfl,q.1.1⟩
    ·exact .inl ⟨_,rfl,q.2.1⟩
  have q:=no (by rw[hso];exact decide_eq_false fun e=>by rw[bt.2 e]at z;cases z)
  conv=>whnf
  refine⟨⟨I++ [i],hI2⟩,hm,?_⟩;refine jC (c:=c) (I:=I++ [i]) (V:=((soV c.A so (I++ [i])).map Prod.fst)) (W:=((soV c.A so (I++ [i])).map fun e=>e.2.src)) 8 9 ?_ ?_ ?_ ?_ ?_ ?_ ?_ ?_ ?_ ?_ ?_ ?_ ?_
  ·exact by decide
  ·exact Nat.le_refl 3
  ·exact rfl
  ·exact ah.cY (k:=3) rfl rfl (by decide) (fun b hb=>by rw[if_neg (by omega),if_neg (by omega)])
  ·exact .rw (by decide) rfl (by rw[q])
  ·exact .rw (by decide) rfl (by rw[q])
  ·exact rfl
  ·exact rfl
  ·exact rfl
  ·exact rfl
  ·exact congrArg (fun s=>some (AO.iter 1 c.cl s)) hs
  ·exact .inl ⟨_,rfl,by rw[q];exact cV _⟩
  ·exact .inl ⟨_,rfl,by rw[q];exact cV _⟩
 have hd:∀e∈c.A,e.2.dst=e.1:=fun e he=>hc.dst e (by rw[<-hc.A];exact he)
 obtain⟨p1,p2⟩:=hI.tH hc.o.nd hc.o.len ho;have pp:(soV c.A so I).Perm (c.A.filter fun e=>so e.2):=p1.filter _;have eN:=gU (pp.map Prod.fst);have eS:=gU (pp.map fun e=>e.2.src);have lV:((soV c.A so I).map Prod.fst).length<=1000000:=by rw[List.length_map];omega
 have lW:((soV c.A so I).map fun e=>e.2.src).length<=1000000:=by rw[List.length_map];omega
 obtain⟨N,hN⟩:∃N,N=aG ((soV c.A so I).map Prod.fst):=⟨_,rfl⟩;obtain⟨S,hS⟩:∃S,S=aG ((soV c.A so I).map fun e=>e.2.src):=⟨_,rfl⟩;have lN:N.length<=1000:=by rw[hN];have:=c7 ((soV c.A so I).map Prod.fst);rw[List.length_map]at this;omega
 have lS:S.length<=1000:=by rw[hS];have:=c7 ((soV c.A so I).map fun e=>e.2.src);rw[List.length_map]at this;omega
 have gN:∀d∈N,∃r,aJ c.A d=some r:=fun d hd=>by
  rw[hN,(bd _).2,List.mem_map]at hd;obtain⟨e,he,rfl⟩:=hd;exact⟨e.2,dX hc.o.key (zM (List.mem_filter.1 he).1)⟩
 have fin:S.flatMap (pkS N c.A)=pkF c.A so:=by rw[hN,hS,eN,eS];rfl
 have vN:AV.fr N.length 1 (strs N)= .fr (aG ((soV c.A so I).map Prod.fst)).length 1 (strs (aG ((soV c.A so I).map Prod.fst))):=by rw[hN]
 have vS:AV.fr S.length 1 (strs S)= .fr (aG ((soV c.A so I).map fun e=>e.2.src)).length 1 (strs (aG ((soV c.A so I).map fun e=>e.2.src))):=by rw[hS]
 clear eN eS pp
 conv=>whnf
 refine⟨_,.fr N.length 1 (strs N),_,.cons (.row (l:=strs ((soV c.A so I).map Prod.fst)) (z:=true) rfl (bZ _) (by rw[bj,Nat.mul_one]) rfl) .nil,⟨_,rfl,lV,vN⟩,?_⟩
 conv=>whnf
 refine⟨_,.fr S.length 1 (strs S),_,.cons (.row (l:=strs ((soV c.A so I).map fun e=>e.2.src)) (z:=true) rfl (bZ _) (by rw[bj,Nat.mul_one]) rfl) .nil,⟨_,rfl,lW,vS⟩,?_⟩;have lP:∀(M:List Tx) (s:Tx),(pkS M c.A s).length<=M.length:=fun M s=>by unfold pkS;rw[List.length_map];exact m0 _
 have lL:∀i,((S.take i).flatMap (pkS N c.A)).length<=1000000:=fun i=>by
  have h1:=ui (L:=S.take i) (f:=pkS N c.A) (b:=1000) fun s _=>Nat.le_trans (lP N s) lN
  have h2:(S.take i).length<=1000:=Nat.le_trans (by rw[List.length_take];exact Nat.min_le_right _ _) lS;omega
 conv=>whnf
 refine aS.mk {i:Nat//i<=S.length} 9 (fun i=>SL k c N S ((S.take i.val).flatMap (pkS N c.A)) i.val) (fun i=>S.length-i.val) ⟨0,Nat.zero_le _⟩ ?_ ?_
 focus
  exact CB (c:=c) (N:=N) (S:=S) (L:=(S.take 0).flatMap (pkS N c.A)) (i:=0) 10 (by decide) (Nat.le_refl 3) rfl rfl (.iD rfl) rfl rfl rfl rfl rfl rfl (.inr ⟨rfl,by decide⟩)
 intro⟨i,hi⟩;have hi:i<=S.length:=hi;have hw:IntKind.i64.wrap ((i:Int)+1)=((i+1:Nat):Int):=by rw[al (by omega) (by omega)];omega
 have lLi:=lL i
 conv=>whnf
 refine ag.dec (fun h=>?_) (fun h=>?_)
 focus
  have h3:i<S.length:=Int.ofNat_lt.1 h;have e3:(S.take (i+1)).flatMap (pkS N c.A)=(S.take i).flatMap (pkS N c.A)++pkS N c.A S[i]:=by rw[List.take_succ_eq_append_getElem h3,List.flatMap_append];simp
  conv=>whnf
  refine Idx.mk i rfl h3 ?_
  conv=>whnf
  refine ay (fI h3 (Nat.mul_one _)) ?_
  conv=>whnf
  refine aS.mk {j:Nat//j<=N.length} 9 (fun j=>SM k c N S ((S.take i).flatMap (pkS N c.A)++pkS (N.take j.val) c.A S[i]) S[i] i j.val) (fun j=>N.length-j.val) ⟨0,Nat.zero_le _⟩ ?_ ?_
  focus
   exact wA (c:=c) (N:=N) (S:=S) (L:=(S.take i).flatMap (pkS N c.A)++pkS (N.take 0) c.A S[i]) (s:=S[i]) (i:=i) (j:=0) 8 (by decide) (Nat.le_refl 3) rfl rfl (.rw (by decide) rfl (by rw[List.length_append];rfl)) rfl rfl rfl rfl rfl rfl rfl rfl rfl rfl (.inl ⟨_,rfl,by rw[dd];exact congrArg ruL (List.append_nil _).symm⟩)
  intro⟨j,hj⟩;have hj:j<=N.length:=hj;have hwj:IntKind.i64.wrap ((j:Int)+1)=((j+1:Nat):Int):=by rw[al (by omega) (by omega)];omega
  obtain⟨L,hL⟩:∃L,L=(S.take i).flatMap (pkS N c.A)++pkS (N.take j) c.A S[i]:=⟨_,rfl⟩
  have bL:L.length<=1001000:=by
   have h1:=lP (N.take j) S[i];rw[List.length_take]at h1;rw[hL,List.length_append];omega
  rw[<-hL]
  conv=>whnf
  refine ag.dec (fun h=>?_) (fun h=>?_)
  focus
   have h4:j<N.length:=Int.ofNat_lt.1 h;obtain⟨r,hr⟩:=gN N[j] (List.getElem_mem h4);have er:rul c.A N[j]=r:=by unfold rul;rw[hr];rfl
   have sn:=wy (R:=c.A) (s:=S[i]) h4;rw[er]at sn;have hlt:N.length-(j+1)<N.length-j:=by omega
   have y1:dp r.src S[i]=true->L++ [r]=(S.take i).flatMap (pkS N c.A)++pkS (N.take (j+1)) c.A S[i]:=fun q=>by rw[sn,if_pos (bt.1 q),hL,List.append_assoc]
   have y0:dp r.src S[i]=false->L=(S.take i).flatMap (pkS N c.A)++pkS (N.take (j+1)) c.A S[i]:=fun q=>by
    have:r.src≠S[i]:=fun e=>by rw[bt.2 e]at q;cases q
    rw[sn,if_neg this,List.append_nil,hL]
   have hsL:bp (ruL L) 0 (L.length*5)=some (ruL L):=bq (jf L);have hbL:(L.length+1)*56<=140737488355328:=by omega
   clear sn
   conv=>whnf
   refine Idx.mk j rfl h4 ?_
   conv=>whnf
   refine ay (fI h4 (Nat.mul_one _)) ?_
   conv=>whnf
   refine Ask.mk _ (aY (m:=c) (g:=gR) (k:=N[j]) bN mkR rfl rfl rfl kN hr) ?_
   conv=>whnf
   refine ag.sb (fun z=>?_) (fun z=>?_)
   focus
    have q:=y1 z
    conv=>whnf
    refine Ask.mk _ (aY (m:=c) (g:=gR) (k:=N[j]) bN mkR rfl rfl rfl kN hr) ?_
    conv=>whnf
    refine bC.grow 5 56 _ _ _ _ _ _ SG (.old rfl) rfl rfl (.rw rfl hsL) hbL ?_
    conv=>whnf
    exact⟨⟨j+1,h4⟩,hlt,wA (c:=c) (N:=N) (S:=S) (L:=(S.take i).flatMap (pkS N c.A)++pkS (N.take (j+1)) c.A S[i]) (s:=S[i]) (i:=i) (j:=j+1) 10 (by decide) (Nat.le_refl 3) rfl rfl (.rw (by decide) rfl (by rw[<-q,List.length_append];rfl)) rfl rfl rfl rfl rfl rfl (congrArg (AV.si .i64) hwj) rfl rfl rfl (.inl ⟨_,rfl,by rw[<-q];exact wx L r⟩)⟩
   have q:=y0 z
   conv=>whnf
   exact⟨⟨j+1,h4⟩,hlt,wA (c:=c) (N:=N) (S:=S) (L:=(S.take i).flatMap (pkS N c.A)++pkS (N.take (j+1)) c.A S[i]) (s:=S[i]) (i:=i) (j:=j+1) 8 (by decide) (Nat.le_refl 3) rfl rfl (.rw (by decide) rfl (by rw[<-q])) rfl rfl rfl rfl rfl rfl (congrArg (AV.si .i64) hwj) rfl rfl rfl (.inl ⟨_,rfl,by rw[<-q];exact dd L⟩)⟩
  have ej:j=N.length:=by have h:¬(j:Int)<(N.length:Int):=h;omega
  have eL:L=(S.take (i+1)).flatMap (pkS N c.A):=by rw[hL,ej,List.take_length,e3]
  conv=>whnf
  exact⟨⟨i+1,h3⟩,by show S.length-(i+1)<S.length-i;omega,CB (c:=c) (N:=N) (S:=S) (L:=(S.take (i+1)).flatMap (pkS N c.A)) (i:=i+1) 8 (by decide) (Nat.le_refl 3) rfl rfl (.rw (by decide) rfl (by rw[eL])) rfl rfl (congrArg (AV.si .i64) hw) rfl rfl rfl (.inl ⟨_,rfl,by rw[eL];exact dd _⟩)⟩
 have ei:i=S.length:=by have h:¬(i:Int)<(S.length:Int):=h;omega
 have eF:(S.take i).flatMap (pkS N c.A)=pkF c.A so:=by rw[ei,List.take_length,fin]
 conv=>whnf
 exact⟨_,c,Re.SD rfl (congrArg List.length eF) rfl (iI _) (jf _) (by rw[eF]),hc,mh rfl rfl⟩
def kO (A:Gr) (L:List Rl):Gr:=L.foldl (fun A r=>dQ A r.dst) A
theorem Ex {A:Gr} {L:List Rl} {i:Nat} (h:i<L.length):kO A (L.take (i+1))=dQ (kO A (L.take i)) L[i].dst:=by
 unfold kO;rw[List.take_succ_eq_append_getElem h,List.foldl_append];rfl
theorem rv {K V:Type} [DecidableEq K] {A:List (K×V)} {k:K} {e:K×V} (h:e∈dQ A k):e∈A:=by
 unfold dQ at h;split at h
 ·exact h
 ·exact List.mem_of_mem_eraseIdx h
theorem sL:∀{L:List Rl} {A:Gr} {e:Tx×Rl},e∈kO A L->e∈A
 | [],_,_,h=>h
 |r::L,A,e,h=>rv (sL (L:=L) (A:=dQ A r.dst) h)
noncomputable def KGo:FuncId->EP:=aV 69 [] KPk
theorem SN:aW KGo:=aq zP (by kernel_rfl) (by kernel_rfl)
noncomputable def Ey (k:Tx) (c:GrC) (I:List Nat) (V:List Tx) (W:List Tx):AE×AH:=(mkE [(0,.ptr 0 (0)),(1,AV.fn 128 [] [.ptr 2 0]),(5,.rw 8 0 V.length 1 0),(6,.rw 9 0 W.length 1 0),(20,.ptr 3 (0))],mkH [(0,.cells [.map 1] true),(1,c.O kT gR),(2,.cells [.ss k] true),(3,AO.iter 1 c.cl (fc c.bs I)),(8,.cells (strs (V)) true),(9,.cells (strs (W)) true)])
theorem cv {k:Tx} {c:GrC} {I:List Nat} {V:List Tx} {W:List Tx} {p n:Nat} {σ:AE} {H:AH} (j8:Nat) (j9:Nat) (hj:j8≠0/\j8≠1/\j8≠2/\j8≠3/\j8≠j9/\j9≠0/\j9≠1/\j9≠2/\j9≠3) (hp:p<=3) (e0:ak (pa 0) σ= .ptr 0 (0)) (e1:ah H 10 (fun b=>if b=8 then j8 else if b=9 then j9 else b) (ak (pa 1) σ) (AV.fn 128 [] [.ptr 2 0])) (e5:ah H 10 (fun b=>if b=8 then j8 else if b=9 then j9 else b) (ak (pa 5) σ) (.rw 8 0 V.length 1 0)) (e6:ah H 10 (fun b=>if b=8 then j8 else if b=9 then j9 else b) (ak (pa 6) σ) (.rw 9 0 W.length 1 0)) (e20:ak (pa 20) σ= .ptr 3 (0)) (h0:H.get 0=some (.cells [.map 1] true)) (h1:H.get 1=some (c.O kT gR)) (h2:H.get 2=some (.cells [.ss k] true)) (h3:H.get 3=some (AO.iter 1 c.cl (fc c.bs I))) (h8:(∃l,H.get j8=some (.cells l true)/\l.map mk=strs (V))∨((V)=[]/\n<=j8)) (h9:(∃l,H.get j9=some (.cells l true)/\l.map mk=strs (W))∨((W)=[]/\n<=j9)):Cov p σ H n ((Ey k c I V W).1,(Ey k c I V W).2,10):=
 Cov.ofB (fun b=>if b=8 then j8 else if b=9 then j9 else b) (by omega) (fun b hb=>by repeat' rw[if_neg (by omega)]) ⟨.ptr (by decide) e0,e1,e5,e6,.ptr (by decide) e20,trivial⟩ ⟨.inl ⟨_,h0,au.b9 (k:=2) rfl (by decide) (fun b hb=>by rw[if_neg (by omega),if_neg (by omega)])⟩,.inl ⟨_,h1,au.b9 (k:=0) (bg dw np) (by decide) (fun b hb=>absurd hb (Nat.not_lt_zero b))⟩,.inl ⟨_,h2,au.b9 (k:=0) rfl (by decide) (fun b hb=>absurd hb (Nat.not_lt_zero b))⟩,.inl ⟨_,h3,au.GF (by decide) rfl⟩,h8.elim (fun⟨l,h,g⟩=> .inl ⟨_,h,au.bz (bZ _) (by rw[g,cV]) (fun q=>q)⟩) (fun h=> .inr ⟨by rw[h.1];rfl,h.2⟩),h9.elim (fun⟨l,h,g⟩=> .inl ⟨_,h,au.bz (bZ _) (by rw[g,cV]) (fun q=>q)⟩) (fun h=> .inr ⟨by rw[h.1];rfl,h.2⟩),trivial⟩ rfl (fun x hx y hy=>by simp only[List.mem_cons,List.not_mem_nil,or_false]at hx hy;rcases hx with rfl|rfl|rfl|rfl|rfl|rfl<;>rcases hy with rfl|rfl|rfl|rfl|rfl|rfl<;>simp<;>omega)
noncomputable def Ez (k:Tx) (c:GrC) (N:List Tx) (S:List Tx) (L:List Rl) (i:Nat):AE×AH:=(mkE [(0,.ptr 0 (0)),(5,.fr N.length 1 (strs N)),(9,AV.rw 8 0 L.length 5 0),(41,.fr S.length 1 (strs S)),(42,.si .i64 ((S.length:Int))),(43,.si .i64 ((i:Int)))],mkH [(0,.cells [.map 1] true),(1,c.O kT gR),(2,.cells [.ss k] true),(8,.cells (ruL (L)) true)])
theorem wB {k:Tx} {c:GrC} {N:List Tx} {S:List Tx} {L:List Rl} {i:Nat} {p n:Nat} {σ:AE} {H:AH} (j8:Nat) (hj:j8≠0/\j8≠1/\j8≠2) (hp:p<=3) (e0:ak (pa 0) σ= .ptr 0 (0)) (e5:ak (pa 5) σ= .fr N.length 1 (strs N)) (e9:ah H 9 (fun b=>if b=8 then j8 else b) (ak (pa 9) σ) (AV.rw 8 0 L.length 5 0)) (e41:ak (pa 41) σ= .fr S.length 1 (strs S)) (e42:mk (ak (pa 42) σ)= .si .i64 ((S.length:Int))) (e43:mk (ak (pa 43) σ)= .si .i64 ((i:Int))) (h0:H.get 0=some (.cells [.map 1] true)) (h1:H.get 1=some (c.O kT gR)) (h2:H.get 2=some (.cells [.ss k] true)) (h8:(∃l,H.get j8=some (.cells l true)/\l.map mk=ruL (L))∨((L)=[]/\n<=j8)):Cov p σ H n ((Ez k c N S L i).1,(Ez k c N S L i).2,9):=
 Cov.ofB (fun b=>if b=8 then j8 else b) (by omega) (fun b hb=>by repeat' rw[if_neg (by omega)]) ⟨.ptr (by decide) e0,ah.frE e5,e9,ah.frE e41,.int e42,.int e43,trivial⟩ ⟨.inl ⟨_,h0,au.b9 (k:=2) rfl (by decide) (fun b hb=>by rw[if_neg (by omega)])⟩,.inl ⟨_,h1,au.b9 (k:=0) (bg dw np) (by decide) (fun b hb=>absurd hb (Nat.not_lt_zero b))⟩,.inl ⟨_,h2,au.b9 (k:=0) rfl (by decide) (fun b hb=>absurd hb (Nat.not_lt_zero b))⟩,h8.elim (fun⟨l,h,g⟩=> .inl ⟨_,h,au.bz (iI _) (by rw[g,dd]) (fun q=>q)⟩) (fun h=> .inr ⟨by rw[h.1];rfl,h.2⟩),trivial⟩ rfl (fun x hx y hy=>by simp only[List.mem_cons,List.not_mem_nil,or_false]at hx hy;rcases hx with rfl|rfl|rfl|rfl<;>rcases hy with rfl|rfl|rfl|rfl<;>simp<;>omega)
noncomputable def EA (k:Tx) (c:GrC) (N:List Tx) (S:List Tx) (L:List Rl) (s:Tx) (i:Nat) (j:Nat):AE×AH:=(mkE [(0,.ptr 0 (0)),(5,.fr N.length 1 (strs N)),(9,AV.rw 8 0 L.length 5 0),(11,.ss (s)),(41,.fr S.length 1 (strs S)),(42,.si .i64 ((S.length:Int))),(43,.si .i64 ((i:Int))),(47,.fr N.length 1 (strs N)),(48,.si .i64 ((N.length:Int))),(49,.si .i64 ((j:Int)))],mkH [(0,.cells [.map 1] true),(1,c.O kT gR),(2,.cells [.ss k] true),(8,.cells (ruL (L)) true)])
theorem qg {k:Tx} {c:GrC} {N:List Tx} {S:List Tx} {L:List Rl} {s:Tx} {i:Nat} {j:Nat} {p n:Nat} {σ:AE} {H:AH} (j8:Nat) (hj:j8≠0/\j8≠1/\j8≠2) (hp:p<=3) (e0:ak (pa 0) σ= .ptr 0 (0)) (e5:ak (pa 5) σ= .fr N.length 1 (strs N)) (e9:ah H 9 (fun b=>if b=8 then j8 else b) (ak (pa 9) σ) (AV.rw 8 0 L.length 5 0)) (e11:mk (ak (pa 11) σ)= .ss (s)) (e41:ak (pa 41) σ= .fr S.length 1 (strs S)) (e42:mk (ak (pa 42) σ)= .si .i64 ((S.length:Int))) (e43:mk (ak (pa 43) σ)= .si .i64 ((i:Int))) (e47:ak (pa 47) σ= .fr N.length 1 (strs N)) (e48:mk (ak (pa 48) σ)= .si .i64 ((N.length:Int))) (e49:mk (ak (pa 49) σ)= .si .i64 ((j:Int))) (h0:H.get 0=some (.cells [.map 1] true)) (h1:H.get 1=some (c.O kT gR)) (h2:H.get 2=some (.cells [.ss k] true)) (h8:(∃l,H.get j8=some (.cells l true)/\l.map mk=ruL (L))∨((L)=[]/\n<=j8)):Cov p σ H n ((EA k c N S L s i j).1,(EA k c N S L s i j).2,9):=
 Cov.ofB (fun b=>if b=8 then j8 else b) (by omega) (fun b hb=>by repeat' rw[if_neg (by omega)]) ⟨.ptr (by decide) e0,ah.frE e5,e9,.str e11,ah.frE e41,.int e42,.int e43,ah.frE e47,.int e48,.int e49,trivial⟩ ⟨.inl ⟨_,h0,au.b9 (k:=2) rfl (by decide) (fun b hb=>by rw[if_neg (by omega)])⟩,.inl ⟨_,h1,au.b9 (k:=0) (bg dw np) (by decide) (fun b hb=>absurd hb (Nat.not_lt_zero b))⟩,.inl ⟨_,h2,au.b9 (k:=0) rfl (by decide) (fun b hb=>absurd hb (Nat.not_lt_zero b))⟩,h8.elim (fun⟨l,h,g⟩=> .inl ⟨_,h,au.bz (iI _) (by rw[g,dd]) (fun q=>q)⟩) (fun h=> .inr ⟨by rw[h.1];rfl,h.2⟩),trivial⟩ rfl (fun x hx y hy=>by simp only[List.mem_cons,List.not_mem_nil,or_false]at hx hy;rcases hx with rfl|rfl|rfl|rfl<;>rcases hy with rfl|rfl|rfl|rfl<;>simp<;>omega)
noncomputable def grG (k:Tx) (c:GrC) (L:List Rl) (i:Nat):AE×AH:=(mkE [(0,.ptr 0 (0)),(5,.rw 8 0 L.length 5 0),(11,.rw 8 0 L.length 5 0),(12,.si .i64 ((L.length:Int))),(13,.si .i64 ((i:Int)))],mkH [(0,.cells [.map 1] true),(1,c.O kT gR),(2,.cells [.ss k] true),(8,.cells (ruL (L)) true)])
theorem GH {k:Tx} {c:GrC} {L:List Rl} {i:Nat} {p n:Nat} {σ:AE} {H:AH} (j8:Nat) (hj:j8≠0/\j8≠1/\j8≠2) (hp:p<=3) (e0:ak (pa 0) σ= .ptr 0 (0)) (e5:ah H 9 (fun b=>if b=8 then j8 else b) (ak (pa 5) σ) (.rw 8 0 L.length 5 0)) (e11:ah H 9 (fun b=>if b=8 then j8 else b) (ak (pa 11) σ) (.rw 8 0 L.length 5 0)) (e12:mk (ak (pa 12) σ)= .si .i64 ((L.length:Int))) (e13:mk (ak (pa 13) σ)= .si .i64 ((i:Int))) (h0:H.get 0=some (.cells [.map 1] true)) (h1:H.get 1=some (c.O kT gR)) (h2:H.get 2=some (.cells [.ss k] true)) (h8:(∃l,H.get j8=some (.cells l true)/\l.map mk=ruL (L))∨((L)=[]/\n<=j8)):Cov p σ H n ((grG k c L i).1,(grG k c L i).2,9):=
 Cov.ofB (fun b=>if b=8 then j8 else b) (by omega) (fun b hb=>by repeat' rw[if_neg (by omega)]) ⟨.ptr (by decide) e0,e5,e11,.int e12,.int e13,trivial⟩ ⟨.inl ⟨_,h0,au.b9 (k:=2) rfl (by decide) (fun b hb=>by rw[if_neg (by omega)])⟩,.inl ⟨_,h1,au.b9 (k:=0) (bg dw np) (by decide) (fun b hb=>absurd hb (Nat.not_lt_zero b))⟩,.inl ⟨_,h2,au.b9 (k:=0) rfl (by decide) (fun b hb=>absurd hb (Nat.not_lt_zero b))⟩,h8.elim (fun⟨l,h,g⟩=> .inl ⟨_,h,au.bz (iI _) (by rw[g,dd]) (fun q=>q)⟩) (fun h=> .inr ⟨by rw[h.1];rfl,h.2⟩),trivial⟩ rfl (fun x hx y hy=>by simp only[List.mem_cons,List.not_mem_nil,or_false]at hx hy;rcases hx with rfl|rfl|rfl|rfl<;>rcases hy with rfl|rfl|rfl|rfl<;>simp<;>omega)
theorem EB (x:Gr) (k:Tx) (c:GrC) (hc:IQ x c) (h1000:c.A.length<=1000):ax KGo 5 69 [.ptr 0 0,.ss k] (mkH (bH (grO c) 0)) 2 (gj GrB (kO c.A (pkF c.A (fun r=>decide (r.src=k)||decide (r.dst=k)))) (.si .i64 (pkF c.A (fun r=>decide (r.src=k)||decide (r.dst=k))).length)):=by
 obtain⟨so,hso⟩:∃so:Rl->Bool,so=fun r=>decide (r.src=k)||decide (r.dst=k):=⟨_,rfl⟩
 rw[<-hso]
 conv=>whnf
 refine aS.mk {I:List Nat//RgI c I} 10 (fun I=>Ey k c I.val ((soV c.A so I.val).map Prod.fst) ((soV c.A so I.val).map fun e=>e.2.src)) (fun I=>c.A.length-I.val.length) ⟨[],.nil⟩ ?_ ?_
 focus
  exact cv (c:=c) (I:=[]) (V:=((soV c.A so []).map Prod.fst)) (W:=((soV c.A so []).map fun e=>e.2.src)) 8 9 (by decide) (Nat.le_refl 3) rfl (ah.cY (k:=3) rfl rfl (by decide) (fun b hb=>by rw[if_neg (by omega),if_neg (by omega)])) (.iD rfl) (.iD rfl) rfl rfl rfl rfl rfl (.inr ⟨rfl,by decide⟩) (.inr ⟨rfl,by decide⟩)
 intro⟨I,hI⟩;have hIl:=hI.len;have hle:(soV c.A so I).length<=I.length:=Nat.le_trans (m0 _) (Nat.le_of_eq (uh hI));have hbV:(((soV c.A so I).map Prod.fst).length+1)*16<=140737488355328:=by rw[List.length_map];omega
 have hbW:(((soV c.A so I).map fun e=>e.2.src).length+1)*16<=140737488355328:=by rw[List.length_map];omega
 have hV:bp (strs ((soV c.A so I).map Prod.fst)) 0 (((soV c.A so I).map Prod.fst).length*1)=some (strs ((soV c.A so I).map Prod.fst)):=bq (by rw[bj,Nat.mul_one]);have hW:bp (strs ((soV c.A so I).map fun e=>e.2.src)) 0 (((soV c.A so I).map fun e=>e.2.src).length*1)=some (strs ((soV c.A so I).map fun e=>e.2.src)):=bq (by rw[bj,Nat.mul_one])
 conv=>whnf
 refine Nxt.mp 3 1 c.cl _ _ _ rfl rfl rfl rfl hc.o.lt (fun ho=>?_) (fun i e x he hx hn=>?_)
 rotate_left
 focus
  obtain⟨hl2,rfl⟩:=uf he;obtain⟨hI2,hi⟩:=hI.step hl2 hx hn;have hs:fc c.bs I++ [x]=fc c.bs (I++ [i]):=(oX hx).symm;have hm:c.A.length-(I++ [i]).length<c.A.length-I.length:=by have:=hI2.len;simp only[List.length_append,List.length_singleton]at this⊢;omega
  have hnd:=hc.o.nd;have e2:=wz (so:=so) (I:=I) hl2
  have yes:so c.A[i].2=true->((strs ((soV c.A so I).map Prod.fst)++ [AV.ss c.A[i].1]).map mk=strs ((soV c.A so (I++ [i])).map Prod.fst)/\((soV c.A so I).map Prod.fst).length+1=((soV c.A so (I++ [i])).map Prod.fst).length)/\(strs ((soV c.A so I).map fun e=>e.2.src)++ [AV.ss c.A[i].2.src]).map mk=strs ((soV c.A so (I++ [i])).map fun e=>e.2.src)/\((soV c.A so I).map fun e=>e.2.src).length+1=((soV c.A so (I++ [i])).map fun e=>e.2.src).length:=fun q=>by
   have eV:(soV c.A so (I++ [i])).map Prod.fst=(soV c.A so I).map Prod.fst++ [c.A[i].1]:=by rw[e2,if_pos q,List.map_append];rfl
   have eW:(soV c.A so (I++ [i])).map (fun e=>e.2.src)=(soV c.A so I).map (fun e=>e.2.src)++ [c.A[i].2.src]:=by rw[e2,if_pos q,List.map_append];rfl
   rw[eV,eW];exact⟨⟨dA _ _,by rw[List.length_append];rfl⟩,dA _ _,by rw[List.length_append];rfl⟩
  have no:so c.A[i].2=false->soV c.A so (I++ [i])=soV c.A so I:=fun q=>by
   rw[e2,q];simp
  clear e2
  conv=>whnf
  refine Ent.mp 3 1 c.cl i x (fc c.bs I) (jd kT gR c.A) c.bs _ rfl rfl rfl hnd hx he ?_
  conv=>whnf
  refine ag.sb (fun z=>?_) (fun z=>?_)
  focus
   have q:=yes (by rw[hso];show(decide _||decide _)=true;rw[decide_eq_true (bt.1 z)];rfl)
   conv=>whnf
   refine⟨?_,?_,?_,?_,?_,?_,trivial⟩
   focus
    conv=>whnf
    refine bC.grow 1 16 _ _ _ _ _ _ tyT (.old rfl) rfl rfl (.rw rfl hV) hbV ?_
    conv=>whnf
    refine bC.grow 1 16 _ _ _ _ _ _ tyT (.old rfl) rfl rfl (.rw rfl hW) hbW ?_
    conv=>whnf
    refine⟨⟨I++ [i],hI2⟩,hm,?_⟩;refine cv (c:=c) (I:=I++ [i]) (V:=((soV c.A so (I++ [i])).map Prod.fst)) (W:=((soV c.A so (I++ [i])).map fun e=>e.2.src)) 13 15 ?_ ?_ ?_ ?_ ?_ ?_ ?_ ?_ ?_ ?_ ?_ ?_ ?_
    ·exact by decide
    ·exact Nat.le_refl 3
    ·exact rfl
    ·exact ah.cY (k:=3) rfl rfl (by decide) (fun b hb=>by rw[if_neg (by omega),if_neg (by omega)])
    ·exact .rw (by decide) rfl q.1.2
    ·exact .rw (by decide) rfl q.2.2
    ·exact rfl
    ·exact rfl
    ·exact rfl
    ·exact rfl
    ·exact congrArg (fun s=>some (AO.iter 1 c.cl s)) hs
    ·exact .inl ⟨_,rfl,q.1.1⟩
    ·exact .inl ⟨_,rfl,q.2.1⟩
   focus
    conv=>whnf
    refine bC.grow 1 16 _ _ _ _ _ _ tyT (.old rfl) rfl rfl (.rw rfl hV) hbV ?_
    conv=>whnf
    refine bC.grow 1 16 _ _ _ _ _ _ tyT (.old rfl) rfl rfl (.rw rfl hW) hbW ?_
    conv=>whnf
    refine⟨⟨I++ [i],hI2⟩,hm,?_⟩;refine cv (c:=c) (I:=I++ [i]) (V:=((soV c.A so (I++ [i])).map Prod.fst)) (W:=((soV c.A so (I++ [i])).map fun e=>e.2.src)) 13 15 ?_ ?_ ?_ ?_ ?_ ?_ ?_ ?_ ?_ ?_ ?_ ?_ ?_
    ·exact by decide
    ·exact Nat.le_refl 3
    ·exact rfl
    ·exact ah.cY (k:=3) rfl rfl (by decide) (fun b hb=>by rw[if_neg (by omega),if_neg (by omega)])
    ·exact .rw (by decide) rfl q.1.2
    ·exact .rw (by decide) rfl q.2.2
    ·exact rfl
    ·exact rfl
    ·exact rfl
    ·exact rfl
    ·exact congrArg (fun s=>some (AO.iter 1 c.cl s)) hs
    ·exact .inl ⟨_,rfl,q.1.1⟩
    ·exact .inl ⟨_,rfl,q.2.1⟩
   focus
    conv=>whnf
    refine bC.grow 1 16 _ _ _ _ _ _ tyT (.old rfl) rfl rfl (.rw rfl hV) hbV ?_
    conv=>whnf
    refine bC.grow 1 16 _ _ _ _ _ _ tyT (.old rfl) rfl rfl (.rw rfl hW) hbW ?_
    conv=>whnf
    refine⟨⟨I++ [i],hI2⟩,hm,?_⟩;refine cv (c:=c) (I:=I++ [i]) (V:=((soV c.A so (I++ [i])).map Prod.fst)) (W:=((soV c.A so (I++ [i])).map fun e=>e.2.src)) 14 15 ?_ ?_ ?_ ?_ ?_ ?_ ?_ ?_ ?_ ?_ ?_ ?_ ?_
    ·exact by decide
    ·exact Nat.le_refl 3
    ·exact rfl
    ·exact ah.cY (k:=3) rfl rfl (by decide) (fun b hb=>by rw[if_neg (by omega),if_neg (by omega)])
    ·exact .rw (by decide) rfl q.1.2
    ·exact .rw (by decide) rfl q.2.2
    ·exact rfl
    ·exact rfl
    ·exact rfl
    ·exact rfl
    ·exact congrArg (fun s=>some (AO.iter 1 c.cl s)) hs
    ·exact .inl ⟨_,rfl,q.1.1⟩
    ·exact .inl ⟨_,rfl,q.2.1⟩
   focus
    conv=>whnf
    refine bC.grow 1 16 _ _ _ _ _ _ tyT (.old rfl) rfl rfl (.rw rfl hV) hbV ?_
    conv=>whnf
    refine bC.grow 1 16 _ _ _ _ _ _ tyT (.old rfl) rfl rfl (.rw rfl hW) hbW ?_
    conv=>whnf
    refine⟨⟨I++ [i],hI2⟩,hm,?_⟩;refine cv (c:=c) (I:=I++ [i]) (V:=((soV c.A so (I++ [i])).map Prod.fst)) (W:=((soV c.A so (I++ [i])).map fun e=>e.2.src)) 13 15 ?_ ?_ ?_ ?_ ?_ ?_ ?_ ?_ ?_ ?_ ?_ ?_ ?_
    ·exact by decide
    ·exact Nat.le_refl 3
    ·exact rfl
    ·exact ah.cY (k:=3) rfl rfl (by decide) (fun b hb=>by rw[if_neg (by omega),if_neg (by omega)])
    ·exact .rw (by decide) rfl q.1.2
    ·exact .rw (by decide) rfl q.2.2
    ·exact rfl
    ·exact rfl
    ·exact rfl
    ·exact rfl
    ·exact congrArg (fun s=>some (AO.iter 1 c.cl s)) hs
    ·exact .inl ⟨_,rfl,q.1.1⟩
    ·exact .inl ⟨_,rfl,q.2.1⟩
   focus
    conv=>whnf
    refine bC.grow 1 16 _ _ _ _ _ _ tyT (.old rfl) rfl rfl (.rw rfl hV) hbV ?_
    conv=>whnf
    refine bC.grow 1 16 _ _ _ _ _ _ tyT (.old rfl) rfl rfl (.rw rfl hW) hbW ?_
    conv=>whnf
    refine⟨⟨I++ [i],hI2⟩,hm,?_⟩;refine cv (c:=c) (I:=I++ [i]) (V:=((soV c.A so (I++ [i])).map Prod.fst)) (W:=((soV c.A so (I++ [i])).map fun e=>e.2.src)) 14 15 ?_ ?_ ?_ ?_ ?_ ?_ ?_ ?_ ?_ ?_ ?_ ?_ ?_
    ·exact by decide
    ·exact Nat.le_refl 3
    ·exact rfl
    ·exact ah.cY (k:=3) rfl rfl (by decide) (fun b hb=>by rw[if_neg (by omega),if_neg (by omega)])
    ·exact .rw (by decide) rfl q.1.2
    ·exact .rw (by decide) rfl q.2.2
    ·exact rfl
    ·exact rfl
    ·exact rfl
    ·exact rfl
    ·exact congrArg (fun s=>some (AO.iter 1 c.cl s)) hs
    ·exact .inl ⟨_,rfl,q.1.1⟩
    ·exact .inl ⟨_,rfl,q.2.1⟩
   focus
    conv=>whnf
    refine bC.grow 1 16 _ _ _ _ _ _ tyT (.old rfl) rfl rfl (.rw rfl hV) hbV ?_
    conv=>whnf
    refine bC.grow 1 16 _ _ _ _ _ _ tyT (.old rfl) rfl rfl (.rw rfl hW) hbW ?_
    conv=>whnf
    refine⟨⟨I++ [i],hI2⟩,hm,?_⟩;refine cv (c:=c) (I:=I++ [i]) (V:=((soV c.A so (I++ [i])).map Prod.fst)) (W:=((soV c.A so (I++ [i])).map fun e=>e.2.src)) 14 15 ?_ ?_ ?_ ?_ ?_ ?_ ?_ ?_ ?_ ?_ ?_ ?_ ?_
    ·exact by decide
    ·exact Nat.le_refl 3
    ·exact rfl
    ·exact ah.cY (k:=3) rfl rfl (by decide) (fun b hb=>by rw[if_neg (by omega),if_neg (by omega)])
    ·exact .rw (by decide) rfl q.1.2
    ·exact .rw (by decide) rfl q.2.2
    ·exact rfl
    ·exact rfl
    ·exact rfl
    ·exact rfl
    ·exact congrArg (fun s=>some (AO.iter 1 c.cl s)) hs
    ·exact .inl ⟨_,rfl,q.1.1⟩
    ·exact .inl ⟨_,rfl,q.2.1⟩
  conv=>whnf
  refine ag.sb (fun z2=>?_) (fun z2=>?_)
  focus
   have q:=yes (by rw[hso];show(decide _||decide _)=true;rw[decide_eq_true (bt.1 z2)];simp)
   conv=>whnf
   refine⟨?_,?_,?_,?_,?_,?_,trivial⟩
   focus
    conv=>whnf
    refine bC.grow 1 16 _ _ _ _ _ _ tyT (.old rfl) rfl rfl (.rw rfl hV) hbV ?_
    conv=>whnf
    refine bC.grow 1 16 _ _ _ _ _ _ tyT (.old rfl) rfl rfl (.rw rfl hW) hbW ?_
    conv=>whnf
    refine⟨⟨I++ [i],hI2⟩,hm,?_⟩;refine cv (c:=c) (I:=I++ [i]) (V:=((soV c.A so (I++ [i])).map Prod.fst)) (W:=((soV c.A so (I++ [i])).map fun e=>e.2.src)) 13 15 ?_ ?_ ?_ ?_ ?_ ?_ ?_ ?_ ?_ ?_ ?_ ?_ ?_
    ·exact by decide
    ·exact Nat.le_refl 3
    ·exact rfl
    ·exact ah.cY (k:=3) rfl rfl (by decide) (fun b hb=>by rw[if_neg (by omega),if_neg (by omega)])
    ·exact .rw (by decide) rfl q.1.2
    ·exact .rw (by decide) rfl q.2.2
    ·exact rfl
    ·exact rfl
    ·exact rfl
    ·exact rfl
    ·exact congrArg (fun s=>some (AO.iter 1 c.cl s)) hs
    ·exact .inl ⟨_,rfl,q.1.1⟩
    ·exact .inl ⟨_,rfl,q.2.1⟩
   focus
    conv=>whnf
    refine bC.grow 1 16 _ _ _ _ _ _ tyT (.old rfl) rfl rfl (.rw rfl hV) hbV ?_
    conv=>whnf
    refine bC.grow 1 16 _ _ _ _ _ _ tyT (.old rfl) rfl rfl (.rw rfl hW) hbW ?_
    conv=>whnf
    refine⟨⟨I++ [i],hI2⟩,hm,?_⟩;refine cv (c:=c) (I:=I++ [i]) (V:=((soV c.A so (I++ [i])).map Prod.fst)) (W:=((soV c.A so (I++ [i])).map fun e=>e.2.src)) 13 15 ?_ ?_ ?_ ?_ ?_ ?_ ?_ ?_ ?_ ?_ ?_ ?_ ?_
    ·exact by decide
    ·exact Nat.le_refl 3
    ·exact rfl
    ·exact ah.cY (k:=3) rfl rfl (by decide) (fun b hb=>by rw[if_neg (by omega),if_neg (by omega)])
    ·exact .rw (by decide) rfl q.1.2
    ·exact .rw (by decide) rfl q.2.2
    ·exact rfl
    ·exact rfl
    ·exact rfl
    ·exact rfl
    ·exact congrArg (fun s=>some (AO.iter 1 c.cl s)) hs
    ·exact .inl ⟨_,rfl,q.1.1⟩
    ·exact .inl ⟨_,rfl,q.2.1⟩
   focus
    conv=>whnf
    refine bC.grow 1 16 _ _ _ _ _ _ tyT (.old rfl) rfl rfl (.rw rfl hV) hbV ?_
    conv=>whnf
    refine bC.grow 1 16 _ _ _ _ _ _ tyT (.old rfl) rfl rfl (.rw rfl hW) hbW ?_
    conv=>whnf
    refine⟨⟨I++ [i],hI2⟩,hm,?_⟩;refine cv (c:=c) (I:=I++ [i]) (V:=((soV c.A so (I++ [i])).map Prod.fst)) (W:=((soV c.A so (I++ [i])).map fun e=>e.2.src)) 14 15 ?_ ?_ ?_ ?_ ?_ ?_ ?_ ?_ ?_ ?_ ?_ ?_ ?_
    ·exact by decide
    ·exact Nat.le_refl 3
    ·exact rfl
    ·exact ah.cY (k:=3) rfl rfl (by decide) (fun b hb=>by rw[if_neg (by omega),if_neg (by omega)])
    ·exact .rw (by decide) rfl q.1.2
    ·exact .rw (by decide) rfl q.2.2
    ·exact rfl
    ·exact rfl
    ·exact rfl
    ·exact rfl
    ·exact congrArg (fun s=>some (AO.iter 1 c.cl s)) hs
    ·exact .inl ⟨_,rfl,q.1.1⟩
    ·exact .inl ⟨_,rfl,q.2.1⟩
   focus
    conv=>whnf
    refine bC.grow 1 16 _ _ _ _ _ _ tyT (.old rfl) rfl rfl (.rw rfl hV) hbV ?_
    conv=>whnf
    refine bC.grow 1 16 _ _ _ _ _ _ tyT (.old rfl) rfl rfl (.rw rfl hW) hbW ?_
    conv=>whnf
    refine⟨⟨I++ [i],hI2⟩,hm,?_⟩;refine cv (c:=c) (I:=I++ [i]) (V:=((soV c.A so (I++ [i])).map Prod.fst)) (W:=((soV c.A so (I++ [i])).map fun e=>e.2.src)) 13 15 ?_ ?_ ?_ ?_ ?_ ?_ ?_ ?_ ?_ ?_ ?_ ?_ ?_
    ·exact by decide
    ·exact Nat.le_refl 3
    ·exact rfl
    ·exact ah.cY (k:=3) rfl rfl (by decide) (fun b hb=>by rw[if_neg (by omega),if_neg (by omega)])
    ·exact .rw (by decide) rfl q.1.2
    ·exact .rw (by decide) rfl q.2.2
    ·exact rfl
    ·exact rfl
    ·exact rfl
    ·exact rfl
    ·exact congrArg (fun s=>some (AO.iter 1 c.cl s)) hs
    ·exact .inl ⟨_,rfl,q.1.1⟩
    ·exact .inl ⟨_,rfl,q.2.1⟩
   focus
    conv=>whnf
    refine bC.grow 1 16 _ _ _ _ _ _ tyT (.old rfl) rfl rfl (.rw rfl hV) hbV ?_
    conv=>whnf
    refine bC.grow 1 16 _ _ _ _ _ _ tyT (.old rfl) rfl rfl (.rw rfl hW) hbW ?_
    conv=>whnf
    refine⟨⟨I++ [i],hI2⟩,hm,?_⟩;refine cv (c:=c) (I:=I++ [i]) (V:=((soV c.A so (I++ [i])).map Prod.fst)) (W:=((soV c.A so (I++ [i])).map fun e=>e.2.src)) 14 15 ?_ ?_ ?_ ?_ ?_ ?_ ?_ ?_ ?_ ?_ ?_ ?_ ?_
    ·exact by decide
    ·exact Nat.le_refl 3
    ·exact rfl
    ·exact ah.cY (k:=3) rfl rfl (by decide) (fun b hb=>by rw[if_neg (by omega),if_neg (by omega)])
    ·exact .rw (by decide) rfl q.1.2
    ·exact .rw (by decide) rfl q.2.2
    ·exact rfl
    ·exact rfl
    ·exact rfl
    ·exact rfl
    ·exact congrArg (fun s=>some (AO.iter 1 c.cl s)) hs
    ·exact .inl ⟨_,rfl,q.1.1⟩
    ·exact .inl ⟨_,rfl,q.2.1⟩
   focus
    conv=>whnf
    refine bC.grow 1 16 _ _ _ _ _ _ tyT (.old rfl) rfl rfl (.rw rfl hV) hbV ?_
    conv=>whnf
    refine bC.grow 1 16 _ _ _ _ _ _ tyT (.old rfl) rfl rfl (.rw rfl hW) hbW ?_
    conv=>whnf
    refine⟨⟨I++ [i],hI2⟩,hm,?_⟩;refine cv (c:=c) (I:=I++ [i]) (V:=((soV c.A so (I++ [i])).map Prod.fst)) (W:=((soV c.A so (I++ [i])).map fun e=>e.2.src)) 14 15 ?_ ?_ ?_ ?_ ?_ ?_ ?_ ?_ ?_ ?_ ?_ ?_ ?_
    ·exact by decide
    ·exact Nat.le_refl 3
    ·exact rfl
    ·exact ah.cY (k:=3) rfl rfl (by decide) (fun b hb=>by rw[if_neg (by omega),if_neg (by omega)])
    ·exact .rw (by decide) rfl q.1.2
    ·exact .rw (by decide) rfl q.2.2
    ·exact rfl
    ·exact rfl
    ·exact rfl
    ·exact rfl
    ·exact congrArg (fun s=>some (AO.iter 1 c.cl s)) hs
    ·exact .inl ⟨_,rfl,q.1.1⟩
    ·exact .inl ⟨_,rfl,q.2.1⟩
  have q:=no (by rw[hso];show(decide _||decide _)=false;rw[decide_eq_false (fun e=>by rw[bt.2 e]at z;cases z),decide_eq_false (fun e=>by rw[bt.2 e]at z2;cases z2)];rfl)
  conv=>whnf
  refine⟨⟨I++ [i],hI2⟩,hm,?_⟩;refine cv (c:=c) (I:=I++ [i]) (V:=((soV c.A so (I++ [i])).map Prod.fst)) (W:=((soV c.A so (I++ [i])).map fun e=>e.2.src)) 8 9 ?_ ?_ ?_ ?_ ?_ ?_ ?_ ?_ ?_ ?_ ?_ ?_ ?_
  ·exact by decide
  ·exact Nat.le_refl 3
  ·exact rfl
  ·exact ah.cY (k:=3) rfl rfl (by decide) (fun b hb=>by rw[if_neg (by omega),if_neg (by omega)])
  ·exact .rw (by decide) rfl (by rw[q])
  ·exact .rw (by decide) rfl (by rw[q])
  ·exact rfl
  ·exact rfl
  ·exact rfl
  ·exact rfl
  ·exact congrArg (fun s=>some (AO.iter 1 c.cl s)) hs
  ·exact .inl ⟨_,rfl,by rw[q];exact cV _⟩
  ·exact .inl ⟨_,rfl,by rw[q];exact cV _⟩
 have hd:∀e∈c.A,e.2.dst=e.1:=fun e he=>hc.dst e (by rw[<-hc.A];exact he)
 obtain⟨p1,p2⟩:=hI.tH hc.o.nd hc.o.len ho;have pp:(soV c.A so I).Perm (c.A.filter fun e=>so e.2):=p1.filter _;have eN:=gU (pp.map Prod.fst);have eS:=gU (pp.map fun e=>e.2.src);have lV:((soV c.A so I).map Prod.fst).length<=1000000:=by rw[List.length_map];omega
 have lW:((soV c.A so I).map fun e=>e.2.src).length<=1000000:=by rw[List.length_map];omega
 obtain⟨N,hN⟩:∃N,N=aG ((soV c.A so I).map Prod.fst):=⟨_,rfl⟩;obtain⟨S,hS⟩:∃S,S=aG ((soV c.A so I).map fun e=>e.2.src):=⟨_,rfl⟩;have lN:N.length<=1000:=by rw[hN];have:=c7 ((soV c.A so I).map Prod.fst);rw[List.length_map]at this;omega
 have lS:S.length<=1000:=by rw[hS];have:=c7 ((soV c.A so I).map fun e=>e.2.src);rw[List.length_map]at this;omega
 have gN:∀d∈N,∃r,aJ c.A d=some r:=fun d hd=>by
  rw[hN,(bd _).2,List.mem_map]at hd;obtain⟨e,he,rfl⟩:=hd;exact⟨e.2,dX hc.o.key (zM (List.mem_filter.1 he).1)⟩
 have fin:S.flatMap (pkS N c.A)=pkF c.A so:=by rw[hN,hS,eN,eS];rfl
 have vN:AV.fr N.length 1 (strs N)= .fr (aG ((soV c.A so I).map Prod.fst)).length 1 (strs (aG ((soV c.A so I).map Prod.fst))):=by rw[hN]
 have vS:AV.fr S.length 1 (strs S)= .fr (aG ((soV c.A so I).map fun e=>e.2.src)).length 1 (strs (aG ((soV c.A so I).map fun e=>e.2.src))):=by rw[hS]
 clear eN eS pp
 conv=>whnf
 refine⟨_,.fr N.length 1 (strs N),_,.cons (.row (l:=strs ((soV c.A so I).map Prod.fst)) (z:=true) rfl (bZ _) (by rw[bj,Nat.mul_one]) rfl) .nil,⟨_,rfl,lV,vN⟩,?_⟩
 conv=>whnf
 refine⟨_,.fr S.length 1 (strs S),_,.cons (.row (l:=strs ((soV c.A so I).map fun e=>e.2.src)) (z:=true) rfl (bZ _) (by rw[bj,Nat.mul_one]) rfl) .nil,⟨_,rfl,lW,vS⟩,?_⟩;have lP:∀(M:List Tx) (s:Tx),(pkS M c.A s).length<=M.length:=fun M s=>by unfold pkS;rw[List.length_map];exact m0 _
 have lL:∀i,((S.take i).flatMap (pkS N c.A)).length<=1000000:=fun i=>by
  have h1:=ui (L:=S.take i) (f:=pkS N c.A) (b:=1000) fun s _=>Nat.le_trans (lP N s) lN
  have h2:(S.take i).length<=1000:=Nat.le_trans (by rw[List.length_take];exact Nat.min_le_right _ _) lS;omega
 conv=>whnf
 refine aS.mk {i:Nat//i<=S.length} 9 (fun i=>Ez k c N S ((S.take i.val).flatMap (pkS N c.A)) i.val) (fun i=>S.length-i.val) ⟨0,Nat.zero_le _⟩ ?_ ?_
 focus
  exact wB (c:=c) (N:=N) (S:=S) (L:=(S.take 0).flatMap (pkS N c.A)) (i:=0) 10 (by decide) (Nat.le_refl 3) rfl rfl (.iD rfl) rfl rfl rfl rfl rfl rfl (.inr ⟨rfl,by decide⟩)
 intro⟨i,hi⟩;have hi:i<=S.length:=hi;have hw:IntKind.i64.wrap ((i:Int)+1)=((i+1:Nat):Int):=by rw[al (by omega) (by omega)];omega
 have lLi:=lL i
 conv=>whnf
 refine ag.dec (fun h=>?_) (fun h=>?_)
 focus
  have h3:i<S.length:=Int.ofNat_lt.1 h;have e3:(S.take (i+1)).flatMap (pkS N c.A)=(S.take i).flatMap (pkS N c.A)++pkS N c.A S[i]:=by rw[List.take_succ_eq_append_getElem h3,List.flatMap_append];simp
  conv=>whnf
  refine Idx.mk i rfl h3 ?_
  conv=>whnf
  refine ay (fI h3 (Nat.mul_one _)) ?_
  conv=>whnf
  refine aS.mk {j:Nat//j<=N.length} 9 (fun j=>EA k c N S ((S.take i).flatMap (pkS N c.A)++pkS (N.take j.val) c.A S[i]) S[i] i j.val) (fun j=>N.length-j.val) ⟨0,Nat.zero_le _⟩ ?_ ?_
  focus
   exact qg (c:=c) (N:=N) (S:=S) (L:=(S.take i).flatMap (pkS N c.A)++pkS (N.take 0) c.A S[i]) (s:=S[i]) (i:=i) (j:=0) 8 (by decide) (Nat.le_refl 3) rfl rfl (.rw (by decide) rfl (by rw[List.length_append];rfl)) rfl rfl rfl rfl rfl rfl rfl rfl rfl rfl (.inl ⟨_,rfl,by rw[dd];exact congrArg ruL (List.append_nil _).symm⟩)
  intro⟨j,hj⟩;have hj:j<=N.length:=hj;have hwj:IntKind.i64.wrap ((j:Int)+1)=((j+1:Nat):Int):=by rw[al (by omega) (by omega)];omega
  obtain⟨L,hL⟩:∃L,L=(S.take i).flatMap (pkS N c.A)++pkS (N.take j) c.A S[i]:=⟨_,rfl⟩
  have bL:L.length<=1001000:=by
   have h1:=lP (N.take j) S[i];rw[List.length_take]at h1;rw[hL,List.length_append];omega
  rw[<-hL]
  conv=>whnf
  refine ag.dec (fun h=>?_) (fun h=>?_)
  focus
   have h4:j<N.length:=Int.ofNat_lt.1 h;obtain⟨r,hr⟩:=gN N[j] (List.getElem_mem h4);have er:rul c.A N[j]=r:=by unfold rul;rw[hr];rfl
   have sn:=wy (R:=c.A) (s:=S[i]) h4;rw[er]at sn;have hlt:N.length-(j+1)<N.length-j:=by omega
   have y1:dp r.src S[i]=true->L++ [r]=(S.take i).flatMap (pkS N c.A)++pkS (N.take (j+1)) c.A S[i]:=fun q=>by rw[sn,if_pos (bt.1 q),hL,List.append_assoc]
   have y0:dp r.src S[i]=false->L=(S.take i).flatMap (pkS N c.A)++pkS (N.take (j+1)) c.A S[i]:=fun q=>by
    have:r.src≠S[i]:=fun e=>by rw[bt.2 e]at q;cases q
    rw[sn,if_neg this,List.append_nil,hL]
   have hsL:bp (ruL L) 0 (L.length*5)=some (ruL L):=bq (jf L);have hbL:(L.length+1)*56<=140737488355328:=by omega
   clear sn
   conv=>whnf
   refine Idx.mk j rfl h4 ?_
   conv=>whnf
   refine ay (fI h4 (Nat.mul_one _)) ?_
   conv=>whnf
   refine Ask.mk _ (aY (m:=c) (g:=gR) (k:=N[j]) bN mkR rfl rfl rfl kN hr) ?_
   conv=>whnf
   refine ag.sb (fun z=>?_) (fun z=>?_)
   focus
    have q:=y1 z
    conv=>whnf
    refine Ask.mk _ (aY (m:=c) (g:=gR) (k:=N[j]) bN mkR rfl rfl rfl kN hr) ?_
    conv=>whnf
    refine bC.grow 5 56 _ _ _ _ _ _ SG (.old rfl) rfl rfl (.rw rfl hsL) hbL ?_
    conv=>whnf
    exact⟨⟨j+1,h4⟩,hlt,qg (c:=c) (N:=N) (S:=S) (L:=(S.take i).flatMap (pkS N c.A)++pkS (N.take (j+1)) c.A S[i]) (s:=S[i]) (i:=i) (j:=j+1) 10 (by decide) (Nat.le_refl 3) rfl rfl (.rw (by decide) rfl (by rw[<-q,List.length_append];rfl)) rfl rfl rfl rfl rfl rfl (congrArg (AV.si .i64) hwj) rfl rfl rfl (.inl ⟨_,rfl,by rw[<-q];exact wx L r⟩)⟩
   have q:=y0 z
   conv=>whnf
   exact⟨⟨j+1,h4⟩,hlt,qg (c:=c) (N:=N) (S:=S) (L:=(S.take i).flatMap (pkS N c.A)++pkS (N.take (j+1)) c.A S[i]) (s:=S[i]) (i:=i) (j:=j+1) 8 (by decide) (Nat.le_refl 3) rfl rfl (.rw (by decide) rfl (by rw[<-q])) rfl rfl rfl rfl rfl rfl (congrArg (AV.si .i64) hwj) rfl rfl rfl (.inl ⟨_,rfl,by rw[<-q];exact dd L⟩)⟩
  have ej:j=N.length:=by have h:¬(j:Int)<(N.length:Int):=h;omega
  have eL:L=(S.take (i+1)).flatMap (pkS N c.A):=by rw[hL,ej,List.take_length,e3]
  conv=>whnf
  exact⟨⟨i+1,h3⟩,by show S.length-(i+1)<S.length-i;omega,wB (c:=c) (N:=N) (S:=S) (L:=(S.take (i+1)).flatMap (pkS N c.A)) (i:=i+1) 8 (by decide) (Nat.le_refl 3) rfl rfl (.rw (by decide) rfl (by rw[eL])) rfl rfl (congrArg (AV.si .i64) hw) rfl rfl rfl (.inl ⟨_,rfl,by rw[eL];exact dd _⟩)⟩
 have ei:i=S.length:=by have h:¬(i:Int)<(S.length:Int):=h;omega
 have eF:(S.take i).flatMap (pkS N c.A)=pkF c.A so:=by rw[ei,List.take_length,fin]
 have hLl:=lL i;obtain⟨L,hL⟩:∃L,L=(S.take i).flatMap (pkS N c.A):=⟨_,rfl⟩;rw[<-hL]at hLl eF;rw[<-hL]
 conv=>whnf
 refine aS.mk {t:Nat×GrC//t.1<=L.length/\t.2.Ok/\t.2.A=kO c.A (L.take t.1)} 9 (fun t=>grG k t.val.2 L t.val.1) (fun t=>L.length-t.val.1) ⟨(0,c),Nat.zero_le _,hc.o,rfl⟩ ?_ ?_
 focus
  exact GH (k:=k) (c:=c) (L:=L) (i:=0) 8 (by decide) (by decide) rfl (.rw (by decide) rfl rfl) (.rw (by decide) rfl rfl) rfl rfl rfl rfl rfl (.inl ⟨_,rfl,dd L⟩)
 intro⟨(m,c2),hm,ho2,hA2⟩;have hm:m<=L.length:=hm;have hwm:IntKind.i64.wrap ((m:Int)+1)=((m+1:Nat):Int):=by rw[al (by omega) (by omega)];omega
 conv=>whnf
 refine ag.dec (fun h=>?_) (fun h=>?_)
 focus
  have h3:m<L.length:=Int.ofNat_lt.1 h;have hlt:L.length-(m+1)<L.length-m:=by omega
  have e5:(c2.del L[m].dst).A=kO c.A (L.take (m+1)):=by rw[wu,hA2,Ex h3]
  have sub:=zN h3 (Nat.zero_add (m*5));have go2:=ho2.del L[m].dst
  conv=>whnf
  refine Idx.mk m rfl h3 ?_
  conv=>whnf
  refine ay sub ?_
  conv=>whnf
  refine Ask.mk _ (sG (m:=c2) (g:=gR) (k:=L[m].dst) bN mkR rfl rfl rfl) ?_
  conv=>whnf
  refine⟨⟨(m+1,c2.del L[m].dst),h3,go2,e5⟩,hlt,GH (k:=k) (c:=c2.del L[m].dst) (L:=L) (i:=m+1) 8 ?_ ?_ ?_ ?_ ?_ ?_ ?_ ?_ ?_ ?_ ?_⟩
  ·exact by decide
  ·exact by decide
  ·exact rfl
  ·exact .rw (by decide) rfl rfl
  ·exact .rw (by decide) rfl rfl
  ·exact rfl
  ·exact congrArg (AV.si .i64) hwm
  ·exact rfl
  ·exact rfl
  ·exact rfl
  ·exact .inl ⟨_,rfl,dd L⟩
 have em:m=L.length:=by have h:¬(m:Int)<(L.length:Int):=h;omega
 have e6:c2.A=kO c.A (pkF c.A so):=by rw[hA2,em,List.take_length,eF]
 have e7:(AV.si .i64 (L.length:Int))= .si .i64 ((pkF c.A so).length:Int):=by rw[eF]
 have e8:∀e∈kO c.A (pkF c.A so),e∈c.A:=fun e=>sL
 conv=>whnf
 exact⟨_,c2,.told (congrArg mkT e7),⟨e6,ho2,fun e he=>hc.dst e (by rw[<-hc.A];exact e8 e he),fun e he=>hc.lab e (by rw[<-hc.A];exact e8 e he)⟩,mh rfl rfl⟩
noncomputable def Mm (x:Gr):List Rl:=pkF x fun _=>true
noncomputable def ofG (x:Gr) (k:Tx):List Rl:=pkF x fun r=>decide (r.src=k)
def wC (k:Tx) (r:Rl):Bool:=decide (r.src=k)||decide (r.dst=k)
noncomputable def tw (x:Gr) (k:Tx):Gr:=kO x (pkF x (wC k))
def UN (x:Gr) (cs:List AV) (v:AV):Prop:=cs=[]/\x.length<=1000/\v= .fr (Mm x).length 5 (ruL (Mm x))
def Mn (x:Gr) (cs:List AV) (v:AV):Prop:=∃k,cs=[.ss k]/\x.length<=1000/\v= .fr (ofG x k).length 5 (ruL (ofG x k))
def UO (x:Gr) (cs:List AV) (x':Gr) (v:AV):Prop:=∃k,cs=[.ss k]/\x.length<=1000/\x'=tw x k/\v= .si .i64 ((pkF x (wC k)).length:Int)
theorem OZ:ai 53 (dI 2 GrB UN):=(gx zP 5 (by kernel_rfl) GrB rfl (by decide) fun x cs x' v ⟨h0,h1,h2,h3⟩=>by
 subst h0 h1 h3;exact⟨rfl,rfl,fun c hc=>by have hA:=hc.A;subst hA;exact IS _ c hc h2⟩).ol
theorem Mo:ai 133 (dI 2 GrB Mn):=(gx zP 5 (by kernel_rfl) GrB rfl (by decide) fun x cs x' v ⟨h0,k,h1,h2,h3⟩=>by
 subst h0 h1 h3;exact⟨rfl,rfl,fun c hc=>by have hA:=hc.A;subst hA;exact CC _ k c hc h2⟩).ol
theorem SO:ai 133 (ij 2 GrB fun x cs x' v=>x'=x/\Mn x cs v):=wq (an zP 5 _) (by kernel_rfl) GrB rfl (by decide) fun x cs x' v ⟨h0,k,h1,h2,h3⟩=>by
 subst h0 h1 h3;exact⟨rfl,rfl,fun c hc=>by have hA:=hc.A;subst hA;exact CC _ k c hc h2⟩
theorem Mp:ai 69 (dS 2 GrB UO):=gx SN 5 (by kernel_rfl) GrB rfl (by decide) fun x cs x' v ⟨k,h1,h2,h3,h4⟩=>by
 subst h1 h3 h4;exact⟨rfl,rfl,fun c hc=>by have hA:=hc.A;subst hA;exact EB _ k c hc h2⟩
def Mq:Option Rl->AV
 |none=> .tup [.agg [.str [],.str [],.int .i64 0,.int .i64 0,.int .i64 0],.sb false]
 |some r=> .tup [gR r,.sb true]
def UP (x:Gr) (cs:List AV) (v:AV):Prop:=∃k,cs=[.ss k]/\v=Mq (aJ x k)
theorem Mr:ai 120 (dI 2 GrB UP):=(gx az 3 (by kernel_rfl) GrB rfl (by decide) fun x cs x' v ⟨h0,k,h1,h2⟩=>by
 subst h0 h1 h2;refine⟨rfl,by cases aJ x' k<;>rfl,fun c hc=>?_⟩;have hA:=hc.A;subst hA;cases hA:aJ c.A k with
 |none=>
  conv=>whnf
  refine Ask.mk _ (aY (m:=c) (g:=gR) bN mkR rfl rfl rfl kN hA) ?_
  conv=>whnf
  exact⟨_,c,.told rfl,hc,mh rfl rfl⟩
 |some r=>
  conv=>whnf
  refine Ask.mk _ (aY (m:=c) (g:=gR) bN mkR rfl rfl rfl kN hA) ?_
  conv=>whnf
  exact⟨_,c,.told rfl,hc,mh rfl rfl⟩).ol
noncomputable def zQ (x:Gr) (r:Rl):Gr×AV:=
 if cX r=false then(x,.si .i64 1)else if(aJ x r.dst).isSome=true then(x,.si .i64 6)
 else if(aJ x r.src).isSome=true∨0<(ofG x r.dst).length then(x,.si .i64 10)else(je x r.dst r,.si .i64 0)
def QE (x:Gr) (cs:List AV) (x':Gr) (v:AV):Prop:=∃r y,cs=[gR r]/\x.length<=1000/\zQ x r=y/\x'=y.1/\v=y.2/\iH v=true
def O0:DT:=[(5,[(some 1000000,[]),(none,[0,1,2,3,4,5,6,7,8,9,10,11,12])]),(8,[(some 1000000,[]),(none,[0,1,2,3,4,5,6,7,8,9,10,11,12])])]
noncomputable def KGa:FuncId->EP:=aV 90 O0 (aw 89 (aZ SH) (aw 133 (ij 2 GrB fun x cs x' v=>x'=x/\Mn x cs v) evP))
theorem SQ:aW KGa:=aq (ae (ae az SO) UM) (by kernel_rfl) (by kernel_rfl)
theorem IT (x:Gr) (r:Rl) (c:GrC) (hc:IQ x c) (h1000:x.length<=1000) {y:Gr×AV} (hy:zQ x r=y):ax KGa 5 90 [.ptr 0 0,gR r] (mkH (bH (grO c) 0)) 2 (gj GrB y.1 y.2):=by
 have hA:=hc.A;have w1:cX r=false->y=(x,.si .i64 1):=fun q=>by rw[<-hy];unfold zQ;rw[if_pos q]
 have w2:cX r=true->∀u,aJ x r.dst=some u->y=(x,.si .i64 6):=fun q u q2=>by rw[<-hy];unfold zQ;rw[q,q2];rfl
 have w3:cX r=true->aJ x r.dst=none->∀u,aJ x r.src=some u->y=(x,.si .i64 10):=fun q q2 u q3=>by rw[<-hy];unfold zQ;rw[q,q2,q3];simp
 have w4:cX r=true->aJ x r.dst=none->aJ x r.src=none->((ofG x r.dst).length:Int)>0->y=(x,.si .i64 10):=fun q q2 q3 q4=>by rw[<-hy];unfold zQ;rw[q,q2,q3,if_neg (by simp),if_neg (by simp),if_pos (.inr (by omega))]
 have w5:cX r=true->aJ x r.dst=none->aJ x r.src=none->¬((ofG x r.dst).length:Int)>0->y=(je x r.dst r,.si .i64 0):=fun q q2 q3 q4=>by rw[<-hy];unfold zQ;rw[q,q2,q3,if_neg (by simp),if_neg (by simp),if_neg (fun h=>h.elim (by simp) (fun h=>q4 (by omega)))]
 obtain⟨y1,y2⟩:=y
 conv=>whnf
 refine⟨_,_,_,.cons .same .nil,⟨r,rfl,rfl⟩,?_⟩
 conv=>whnf
 refine ag.nsb (fun z1=>?_) (fun z1=>?_)
 focus
  have e:=w1 z1;injection e with e1 e2;subst e1 e2
  conv=>whnf
  exact⟨_,c,.told rfl,hc,mh rfl rfl⟩
 cases h1:aJ c.A r.dst with
 |some u=>
  have e:=w2 z1 u (by rw[<-hA];exact h1);injection e with e1 e2;subst e1 e2
  conv=>whnf
  refine⟨?_,trivial⟩
  conv=>whnf
  refine Ask.mk _ (aY (m:=c) (g:=gR) (k:=r.dst) bN mkR rfl rfl rfl kN h1) ?_
  conv=>whnf
  exact⟨_,c,.told rfl,hc,mh rfl rfl⟩
 |none=>
  have h1x:aJ x r.dst=none:=by rw[<-hA];exact h1
  cases h2:aJ c.A r.src with
  |some u=>
   have e:=w3 z1 h1x u (by rw[<-hA];exact h2);injection e with e1 e2;subst e1 e2
   conv=>whnf
   refine⟨?_,trivial⟩
   conv=>whnf
   refine Ask.mk _ (aY (m:=c) (g:=gR) (k:=r.dst) bN mkR rfl rfl rfl kN h1) ?_
   conv=>whnf
   refine⟨?_,trivial⟩
   conv=>whnf
   refine Ask.mk _ (aY (m:=c) (g:=gR) (k:=r.src) bN mkR rfl rfl rfl kN h2) ?_
   conv=>whnf
   exact⟨_,c,.told rfl,hc,mh rfl rfl⟩
  |none=>
   have h2x:aJ x r.src=none:=by rw[<-hA];exact h2
   conv=>whnf
   refine⟨?_,trivial⟩
   conv=>whnf
   refine Ask.mk _ (aY (m:=c) (g:=gR) (k:=r.dst) bN mkR rfl rfl rfl kN h1) ?_
   conv=>whnf
   refine⟨?_,trivial⟩
   conv=>whnf
   refine Ask.mk _ (aY (m:=c) (g:=gR) (k:=r.src) bN mkR rfl rfl rfl kN h2) ?_
   conv=>whnf
   refine⟨x,[.ss r.dst],_,_,_,c,rfl,by decide,.cons .same .nil,hc,V3 rfl rfl,⟨rfl,r.dst,rfl,h1000,rfl⟩,fun c1 hc1=>?_⟩;have hA1:=hc1.A
   conv=>whnf
   refine ag.dec (fun z2=>?_) (fun z2=>?_)
   focus
    have e:=w4 z1 h1x h2x z2;injection e with e1 e2;subst e1 e2
    conv=>whnf
    exact⟨_,c1,.told rfl,hc1,mh rfl rfl⟩
   have e:=w5 z1 h1x h2x z2;injection e with e1 e2;subst e1 e2;have hp:(c1.put r.dst r).A=je x r.dst r:=by rw[Gz,hA1]
   have hok:IQ (je x r.dst r) (c1.put r.dst r):=⟨hp,hc1.o.put _ _,fun e he=>by
    rw[<-hp]at he;rcases rn he with rfl|he
    ·rfl
    ·exact hc1.dst e (by rw[<-hA1];exact he),fun e he=>by
    rw[<-hp]at he;rcases rn he with rfl|he
    ·exact z1
    ·exact hc1.lab e (by rw[<-hA1];exact he)⟩
   conv=>whnf
   refine Ask.mk _ (wo (m:=c1) (g:=gR) (v:=r) (k:=r.dst) bN mkR rfl rfl rfl rfl) ?_
   conv=>whnf
   exact⟨_,c1.put r.dst r,.told rfl,hok,mh rfl rfl⟩
theorem O1:ai 90 (dS 2 GrB QE):=gx SQ 5 (by kernel_rfl) GrB rfl (by decide) fun x cs x' v ⟨r,y,h1,h2,h3,h4,h5,h6⟩=>by
 subst h1 h4 h5;exact⟨rfl,h6,fun c hc=>IT x r c hc h2 h3⟩
def pw (x:Gr) (s d:Tx):Gr×AV:=match aJ x d with
 |none=>(x,.tup [.agg [.str [],.str [],.int .i64 0,.int .i64 0,.int .i64 0],.si .i64 5])
 |some r=>if r.src=s then(dQ x d,.tup [gR r,.si .i64 0])else(x,.tup [.agg [.str [],.str [],.int .i64 0,.int .i64 0,.int .i64 0],.si .i64 5])
def UQ (x:Gr) (cs:List AV) (x':Gr) (v:AV):Prop:=∃s d y,cs=[.ss s,.ss d]/\pw x s d=y/\x'=y.1/\v=y.2
theorem IU (x:Gr) (s d:Tx):iH (pw x s d).2=true:=by unfold pw;repeat' (first|rfl|split)
theorem Ms:ai 109 (dS 2 GrB UQ):=gx az 3 (by kernel_rfl) GrB rfl (by decide) fun x cs x' v ⟨s,d,y,h1,h2,h3,h4⟩=>by
 subst h1 h3 h4;refine⟨rfl,by rw[<-h2];exact IU _ _ _,fun c hc=>?_⟩;have hA:=hc.A;unfold pw at h2;cases h1:aJ c.A d with
 |none=>
  rw[<-hA,h1]at h2;subst h2
  conv=>whnf
  refine Ask.mk _ (aY (m:=c) (g:=gR) (k:=d) bN mkR rfl rfl rfl kN h1) ?_
  conv=>whnf
  exact⟨_,c,.told rfl,⟨rfl,hc.o,by rw[hA];exact hc.dst,by rw[hA];exact hc.lab⟩,mh rfl rfl⟩
 |some r=>
  rw[<-hA,h1]at h2;have h2:(if r.src=s then(dQ c.A d,AV.tup [gR r,.si .i64 0])else(c.A,AV.tup [.agg [.str [],.str [],.int .i64 0,.int .i64 0,.int .i64 0],.si .i64 5]))=y:=h2
  conv=>whnf
  refine Ask.mk _ (aY (m:=c) (g:=gR) (k:=d) bN mkR rfl rfl rfl kN h1) ?_
  conv=>whnf
  refine ag.nsb (fun z=>?_) (fun z=>?_)
  focus
   rw[if_neg (fun e=>by rw[bt.2 e]at z;cases z)]at h2;subst h2
   conv=>whnf
   exact⟨_,c,.told rfl,⟨rfl,hc.o,by rw[hA];exact hc.dst,by rw[hA];exact hc.lab⟩,mh rfl rfl⟩
  rw[if_pos (bt.1 z)]at h2;subst h2;have e1:(c.del d).A=dQ c.A d:=wu _ _
  conv=>whnf
  refine Ask.mk _ (sG (m:=c) (g:=gR) (k:=d) bN mkR rfl rfl rfl) ?_
  conv=>whnf
  exact⟨_,c.del d,.told rfl,⟨e1,hc.o.del d,fun e he=>hc.dst e (by rw[<-hA];exact rv he),fun e he=>hc.lab e (by rw[<-hA];exact rv he)⟩,mh rfl rfl⟩
theorem O3:ai 52 (vY 2 GrB fun cs y=>cs=[]/\y=[]):=L5 (an az 3 _) (by kernel_rfl) GrB rfl (by decide) fun cs y ⟨h1,h2⟩=>by
 subst h1 h2;refine⟨rfl,?_⟩
 conv=>whnf
 refine⟨(MpC.no:GrC),⟨rfl,MpC.Cw,fun _ h=>(by cases h),fun _ h=>(by cases h)⟩,Cov.ofR (fun b=>1-b) (Nat.zero_le _) (fun b hb=>absurd hb (Nat.not_lt_zero b)) (fun x hx=>?_) (fun x hx=>?_) (fun x hx y hy e=>?_)⟩
 ·simp only[List.mem_cons,List.not_mem_nil,or_false]at hx;subst hx;exact .ptr (by decide) rfl
 ·simp only[bH,grO,GrB,List.mem_cons,List.not_mem_nil,or_false]at hx;rcases hx with rfl|rfl
  ·refine⟨by decide,.inl ⟨_,rfl,.cells (Nat.le_refl _) id fun i a' hi=>?_⟩⟩
   match i,hi with
   |0,hi=>injection hi with hi;subst hi;exact⟨_,rfl,.map (by decide) rfl⟩
   |i+1,hi=>simp at hi
  ·exact⟨by decide,.inl ⟨_,rfl,.Mb⟩⟩
 ·simp only[bH,grO,GrB,List.mem_cons,List.not_mem_nil,or_false]at hx hy;rcases hx with rfl|rfl<;>rcases hy with rfl|rfl<;>simp at e⊢
theorem CD {H:AH}:∀{k m n:Nat},m<=k->ie H k n=true->ie H m n=true
 |_,0,_,_,_=>rfl
 |0,m+1,_,hm,_=>by omega
 |k+1,m+1,n,hm,h=>by
  unfold ie at h⊢;split at h
  ·exact CD (by omega) h
  ·cases h
structure SE where
 p:Nat×Nat
 S:Sr
 L:Smp
 z:Int
def gE (e:SE):AV:= .agg [aQ e.p,.si .i64 e.z]
def V4 (e:SE):HP:=cD e.p e.S e.L
def aK (A:List (Tx×SE)):List HP:=A.map fun e=>V4 e.2
structure SpC where
 m:MpC Tx SE
 x:Ix
 px:Nat×Nat
 g:Gr
 pg:Nat×Nat
def spO (c:SpC):List AO:=[.cells [.map 1,aQ c.px,aQ c.pg] true,c.m.O kT gE,.sep (IxB.Q c.x c.px),.sep (GrB.Q c.g c.pg),.sep (aI (aK c.m.A))]
structure iK where
 S:Sr
 L:Smp
 z:Int
 lab:List Lab
structure SpV where
 K:Tx->Option iK
 R:Tx->Option Rl
 n:Nat
def Mt (e:SE):Sr×Smp×Int:=(e.S,e.L,e.z)
def Mu (e:iK):Sr×Smp×Int:=(e.S,e.L,e.z)
structure cg (X:SpV) (c:SpC):Prop where
 o:c.m.Ok
 xk:(c.x.A.map Prod.fst).Nodup
 gk:(c.g.map Prod.fst).Nodup
 n9:X.n<=1000
 ml:c.m.A.length<=X.n
 xl:c.x.A.length<=X.n
 xw:c.x.w<=8*X.n
 gl:c.g.length<=X.n
 K:∀k,(aJ c.m.A k).map Mt=(X.K k).map Mu
 I:∀k,aJ c.x.A k=(X.K k).map iK.lab
 R:∀k,aJ c.g k=X.R k
 dst:∀e∈c.g,e.2.dst=e.1
 ser:∀k e,X.K k=some e->jQ e.S e.L
 key:∀k e,X.K k=some e->im k=true
 rul:∀k r,X.R k=some r->cX r=true
theorem tz {j:Nat} (e:SE):ltV j (gE e)=true:=rfl
def SpB:Obj SpV SpC where
 ok:=cg
 O:=spO
 k:=5
 len _:=rfl
 own c o h:=by
  simp only[spO,List.mem_cons,List.not_mem_nil,or_false]at h;rcases h with rfl|rfl|rfl|rfl|rfl
  ·exact⟨rfl,rfl⟩
  ·exact⟨rfl,bg dw tz⟩
  ·exact⟨rfl,rfl⟩
  ·exact⟨rfl,rfl⟩
  ·exact⟨rfl,rfl⟩
 pos c:=⟨_,_,_,rfl⟩
theorem bU {H:AH} {c:SpC} (h0:H.get 0=some (.cells [.map 1,aQ c.px,aQ c.pg] true)) (h1:H.get 1=some (c.m.O kT gE)) (h2:H.get 2=some (.sep (IxB.Q c.x c.px))) (h3:H.get 3=some (.sep (GrB.Q c.g c.pg))) (h4:H.get 4=some (.sep (aI (aK c.m.A)))):wV H 5 (spO c) 0:=
 ⟨⟨_,h0,.refl rfl⟩,⟨_,h1,.refl (bg dw tz)⟩,⟨_,h2,.refl rfl⟩,⟨_,h3,.refl rfl⟩,⟨_,h4,.refl rfl⟩,trivial⟩
theorem sM {H:AH} {c:SpC} (h0:H.get 0=some (.cells [.map 1,aQ c.px,aQ c.pg] true)) (h1:H.get 1=some (c.m.O kT gE)) (h2:H.get 2=some (.sep (IxB.Q c.x c.px))) (h3:H.get 3=some (.sep (GrB.Q c.g c.pg))) (h4:H.get 4=some (.sep (aI (aK c.m.A)))):∀i o,(spO c)[i]?=some o->H.get i=some o
 |0,o,h=>by injection h with h;subst h;exact h0
 |1,o,h=>by injection h with h;subst h;exact h1
 |2,o,h=>by injection h with h;subst h;exact h2
 |3,o,h=>by injection h with h;subst h;exact h3
 |4,o,h=>by injection h with h;subst h;exact h4
 |i+5,o,h=>by simp[spO]at h
theorem ow:dq Tryz.prog 92=some (9,.string,105):=by kernel_rfl
theorem qh:cL Tryz.prog 105=some (.agg #[.pointer none,.int .i64 0]):=by kernel_rfl
section
variable {X:SpV} {c:SpC}
theorem cg.has (h:cg X c) (k:Tx):(aJ c.x.A k).isSome=(X.K k).isSome:=by rw[h.I];simp
def EC (m:MpC Tx SE) (k:Tx) (A1 A2:List (Tx×SE)):Prop:=∀E,m.put k E=⟨A1++(k,E)::A2,m.bs,m.cl⟩
theorem O4 {m:MpC Tx SE} {k:Tx} {E:SE} (h:aJ m.A k=some E):∃A1 A2,m.A=A1++(k,E)::A2/\EC m k A1 A2:=by
 unfold aJ at h;rw[Option.map_eq_some_iff]at h;obtain⟨⟨i,u⟩,h1,rfl⟩:=h;have h2:=(fQ h1).2;rw[Nat.sub_zero]at h2;obtain⟨h3,h4⟩:=List.getElem?_eq_some_iff.1 h2;refine⟨m.A.take i,m.A.drop (i+1),?_,fun E=>?_⟩
 ·rw[<-h4,<-List.drop_eq_getElem_cons h3,List.take_append_drop]
 ·unfold MpC.put;rw[h1];show(⟨m.A.set i (k,E),m.bs,m.cl⟩:MpC Tx SE)=_;rw[List.set_eq_take_append_cons_drop,if_pos h3]
theorem cg.at1 (h:cg X c) {k:Tx} {e:iK} (hk:X.K k=some e):∃p A1 A2,aJ c.m.A k=some ⟨p,e.S,e.L,e.z⟩/\c.m.A=A1++(k,⟨p,e.S,e.L,e.z⟩)::A2/\EC c.m k A1 A2/\aK c.m.A=aK A1++cD p e.S e.L::aK A2:=by
 have h1:=h.K k;rw[hk]at h1;cases h2:aJ c.m.A k with
 |none=>rw[h2]at h1;cases h1
 |some u=>
  rw[h2]at h1;obtain⟨p,S,L,z⟩:=u;injection h1 with h1;simp only[Mt,Mu,Prod.mk.injEq]at h1;obtain⟨rfl,rfl,rfl⟩:=h1;obtain⟨A1,A2,h3,h4⟩:=O4 h2;refine⟨p,A1,A2,rfl,h3,h4,?_⟩;rw[h3];unfold aK;rw[List.map_append];rfl
def gW (X:SpV) (k:Tx) (e:iK):SpV:={X with K:=fun x=>if x=k then some e else X.K x}
theorem cg.wW (h:cg X c) {k:Tx} {e:iK} (hk:X.K k=some e) {p:Nat×Nat} {A1 A2:List (Tx×SE)} (hg:aJ c.m.A k=some ⟨p,e.S,e.L,e.z⟩) (ha:c.m.A=A1++(k,⟨p,e.S,e.L,e.z⟩)::A2) (hp:EC c.m k A1 A2) {S':Sr} {L':Smp} (ho:jQ S' L'):
 cg (gW X k {e with S:=S',L:=L'}) {c with m:=c.m.put k ⟨p,S',L',e.z⟩}/\(c.m.put k ⟨p,S',L',e.z⟩).O kT gE=c.m.O kT gE/\aK (c.m.put k ⟨p,S',L',e.z⟩).A=aK A1++cD p S' L'::aK A2:=by
 have eA:(c.m.put k ⟨p,S',L',e.z⟩).A=A1++(k,⟨p,S',L',e.z⟩)::A2:=congrArg MpC.A (hp _);refine⟨⟨h.o.put k _,h.xk,h.gk,h.n9,?_,h.xl,h.xw,h.gl,fun x=>?_,fun x=>?_,h.R,h.dst,fun x y hy=>?_,fun x y hy=>?_,h.rul⟩,?_,?_⟩
 ·rw[eA];have:=h.ml;rw[ha]at this;simpa[gW]using this
 ·rw[wj h.o];by_cases q:x=k
  ·subst q;simp[gW,Mt,Mu]
  ·simp[gW,q,h.K x]
 ·by_cases q:x=k
  ·subst q;simp[gW,h.I x,hk]
  ·simp[gW,q,h.I x]
 ·by_cases q:x=k
  ·subst q;simp only[gW,if_true,Option.some.injEq]at hy;subst hy;exact ho
  ·simp only[gW,if_neg q]at hy;exact h.ser x y hy
 ·by_cases q:x=k
  ·subst q;exact h.key x e hk
  ·simp only[gW,if_neg q]at hy;exact h.key x y hy
 ·have e2:c.m.put k ⟨p,S',L',e.z⟩=⟨A1++(k,⟨p,S',L',e.z⟩)::A2,c.m.bs,c.m.cl⟩:=hp _;unfold MpC.O;rw[e2];show AO.mp (jd kT gE (A1++_::A2)) _ _=_;rw[ha];unfold jd;simp only[List.map_append,List.map_cons];rfl
 ·rw[eA];unfold aK;rw[List.map_append];rfl
theorem cg.no1 (h:cg X c) {k:Tx} (hk:X.K k=none):aJ c.m.A k=none:=by
 have h1:=h.K k;rw[hk]at h1;cases h2:aJ c.m.A k with
 |none=>rfl
 |some u=>rw[h2]at h1;cases h1
end
def dz (X:SpV) (k:Tx):Int:=if(X.K k).isSome=true then(if(X.R k).isSome=true then 10 else 0)else 5
def O5 (X:SpV) (cs:List AV) (X':SpV) (v:AV):Prop:=∃k,cs=[.ss k]/\X'=X/\v= .si .i64 (dz X k)
noncomputable def KWr:FuncId->EP:=aw 84 (dI 4 IxB IM) (aw 120 (dI 2 GrB UP) evP)
theorem SR:aW KWr:=ae (ae az Mr) rq
theorem IV (X:SpV) (k:Tx) (c:SpC) (hc:cg X c):ax KWr 5 61 [.ptr 0 0,.ss k] (mkH (bH (spO c) 0)) 5 (gj SpB X (.si .i64 (dz X k))):=by
 have hI:=hc.has k;have hR:=hc.R k;cases hK:X.K k with
 |none=>
  rw[hK]at hI;have e:dz X k=5:=by unfold dz;rw[hK];rfl
  rw[e]
  conv=>whnf
  refine⟨2,c.px,c.x,[.ss k],.sb false,rfl,by decide,by decide,.cons .same .nil,rfl,rfl,⟨k,rfl,congrArg AV.sb hI.symm⟩,?_⟩
  conv=>whnf
  refine ag.nsb (fun z=>?_) (fun z=>?_)
  focus
   conv=>whnf
   exact⟨_,c,.told rfl,hc,bU rfl rfl rfl rfl rfl⟩
  cases z
 |some u=>
  rw[hK]at hI;cases hX:X.R k with
  |none=>
   rw[hX]at hR;have e:dz X k=0:=by unfold dz;rw[hK,hX];rfl
   rw[e]
   conv=>whnf
   refine⟨2,c.px,c.x,[.ss k],.sb true,rfl,by decide,by decide,.cons .same .nil,rfl,rfl,⟨k,rfl,congrArg AV.sb hI.symm⟩,?_⟩
   conv=>whnf
   refine ag.nsb (fun z=>?_) (fun z=>?_)
   focus
    cases z
   conv=>whnf
   refine⟨3,c.pg,c.g,[.ss k],Mq none,rfl,by decide,by decide,.cons .same .nil,rfl,rfl,⟨k,rfl,by rw[hR]⟩,?_⟩
   conv=>whnf
   refine ag.sb (fun z=>?_) (fun z=>?_)
   focus
    cases z
   conv=>whnf
   exact⟨_,c,.told rfl,hc,bU rfl rfl rfl rfl rfl⟩
  |some r=>
   rw[hX]at hR;have e:dz X k=10:=by unfold dz;rw[hK,hX];rfl
   rw[e]
   conv=>whnf
   refine⟨2,c.px,c.x,[.ss k],.sb true,rfl,by decide,by decide,.cons .same .nil,rfl,rfl,⟨k,rfl,congrArg AV.sb hI.symm⟩,?_⟩
   conv=>whnf
   refine ag.nsb (fun z=>?_) (fun z=>?_)
   focus
    cases z
   conv=>whnf
   refine⟨3,c.pg,c.g,[.ss k],Mq (some r),rfl,by decide,by decide,.cons .same .nil,rfl,rfl,⟨k,rfl,by rw[hR]⟩,?_⟩
   conv=>whnf
   refine ag.sb (fun z=>?_) (fun z=>?_)
   focus
    conv=>whnf
    exact⟨_,c,.told rfl,hc,bU rfl rfl rfl rfl rfl⟩
   cases z
theorem zS:ai 61 (ij 5 SpB O5):=wq (an SR 5 _) (by kernel_rfl) SpB rfl (by decide) fun X cs X' v ⟨k,h1,h2,h3⟩=>by
 subst h1 h2 h3;exact⟨rfl,rfl,fun c hc=>IV _ k c hc⟩
noncomputable def tI (H:AH) (n b:Nat) (A C:List HP) (Q:HP):AH:=(H.set (some (.sep (aI (A++C)))) aa b).set (some (.sep Q)) aa n
section
variable {H:AH} {n b:Nat} {A C:List HP} {Q:HP}
theorem Mv {x:Nat} {o:AO} (hn:n<800000) (hb:b<n) (h:H.get x=some o) (h1:x≠b) (h2:x≠n):(tI H n b A C Q).get x=some o:=PM.gne (by omega) h2 (PM.gne (by omega) h1 h)
theorem Mw (hn:n<800000) (hb:b<n):(tI H n b A C Q).get b=some (.sep (aI (A++C))):=PM.gne (by omega) (by omega) (PM.geq (by omega))
theorem qi (hn:n<800000):(tI H n b A C Q).get n=some (.sep Q):=PM.geq (by omega)
theorem lq {x:Nat} (hx:n<x) (hb:b<n) (h:H.get x=none):(tI H n b A C Q).get x=none:=by
 cases e:(tI H n b A C Q).get x with
 |none=>rfl
 |some o=>
  rcases PM.aj aa _ n x o e with⟨j1,_⟩|⟨_,j2⟩
  ·omega
  rcases PM.aj aa _ b x o j2 with⟨j1,_⟩|⟨_,j2⟩
  ·omega
  rw[h]at j2;cases j2
theorem dY {k:Nat}:∀{m:Nat},ie H m n=true->k<m->H.get (n+k)=none:=fun{m} h hk=>by
 cases e:H.get (n+k)with
 |none=>rfl
 |some o=>exact(mX h (Nat.le_add_right n k) (by omega) e).elim
theorem kf (h:ie H 5 n=true) (hn:n<700000) (hb:b<n):ln (tI H n b A C Q) (n+1):=
 ⟨by omega,lq (by omega) hb (dY (k:=1) h (by decide)),lq (by omega) hb (dY (k:=2) h (by decide)),lq (by omega) hb (dY (k:=3) h (by decide)),lq (by omega) hb (dY (k:=4) h (by decide))⟩
end
def UR (run:List AV->AH->Nat->PK->Prop) (args:List AV) (H:AH) (n:Nat) (κ:PK):Prop:=∃(b:Nat) (A C:List HP) (Q:HP) (κ0:AV->HP->Nat->Prop),b<n/\n<700000/\H.get n=none/\H.get b=some (.sep (aI (A++Q::C)))/\run args (tI H n b A C Q) (n+1) (fun v H2 n2=>∃Q',H2=(tI H n b A C Q).set (some (.sep Q')) aa n/\κ0 v Q' n2)/\∀v Q' n2,κ0 v Q' n2->κ v (H.set (some (.sep (aI (A++Q'::C)))) aa b) n2
theorem ai.s1 {f:FuncId} {run:List AV->AH->Nat->PK->Prop} (hrun:ai f run):ai f (UR run):=fun args H n κ ⟨b,A,C,Q,κ0,h1,h2,h3,h4,h5,h6⟩ φ h0 hp vs K hr hargs hk=>by
 refine hrun.w.st args H n (fun u H3 m2=>∃Q' H2,κ0 u Q' m2/\H2=(tI H n b A C Q).set (some (.sep Q')) aa n/\H3=(H2.set none aa n).set (some (.sep (aI (A++Q'::C)))) aa b) ⟨b,A,C,Q,h1,by omega,h3,h4,_,h5,fun u H2 m2 ⟨Q',e1,e2⟩=>?_⟩ φ h0 hp vs K hr hargs fun ψ u H3 m2 w g hle hg hu ⟨Q',H2,e1,e2,e3⟩=>?_
 ·subst e1;exact⟨Q',PM.gne (by omega) (by omega) (Mw (by omega) h1),PM.geq (by omega),Q',_,e2,rfl,rfl⟩
 ·subst e2 e3;refine hk ψ u _ _ w g hle (hg.less fun x o hx=>?_) hu (h6 u Q' m2 e1);rcases PM.aj aa _ b x o hx with⟨j1,j2⟩|⟨j1,j2⟩
  ·subst j1;injection j2 with j2;subst j2;exact PM.geq (by omega)
  ·have q2:x≠n:=fun e=>by subst e;rw[h3]at j2;cases j2
   exact PM.gne (by omega) j1 (PM.gne (by omega) q2 (PM.gne (by omega) q2 (Mv (by omega) h1 j2 j1 q2)))
def US (run:List AV->AH->Nat->PK->Prop) (args:List AV) (H:AH) (n:Nat) (κ:PK):Prop:=∃(b:Nat) (A C:List HP) (Q:HP) (κ0:AV->AO->Nat->Nat->Prop),b<n/\n<700000/\H.get n=none/\H.get b=some (.sep (aI (A++Q::C)))/\run args (tI H n b A C Q) (n+1) (fun v H2 n2=>∃o m,n<m/\m<900000/\H2=(tI H n b A C Q).set (some o) aa m/\κ0 v o m n2)/\∀v o m n2,κ0 v o m n2->κ v (H.set (some o) aa m) n2
theorem ai.s2 {f:FuncId} {run:List AV->AH->Nat->PK->Prop} (hrun:ai f run):ai f (US run):=fun args H n κ ⟨b,A,C,Q,κ0,h1,h2,h3,h4,h5,h6⟩ φ h0 hp vs K hr hargs hk=>by
 refine hrun.w.st args H n (fun u H3 m2=>∃o m H2,n<m/\m<900000/\κ0 u o m m2/\H2=(tI H n b A C Q).set (some o) aa m/\H3=(H2.set none aa n).set (some (.sep (aI (A++Q::C)))) aa b) ⟨b,A,C,Q,h1,by omega,h3,h4,_,h5,fun u H2 m2 ⟨o,m,e0,e9,e1,e2⟩=>?_⟩ φ h0 hp vs K hr hargs fun ψ u H3 m2 w g hle hg hu ⟨o,m,H2,e0,e9,e1,e2,e3⟩=>?_
 ·subst e1;exact⟨Q,PM.gne (by omega) (by omega) (Mw (by omega) h1),PM.gne (by omega) (by omega) (qi (by omega)),o,m,_,e0,e9,e2,rfl,rfl⟩
 ·subst e2 e3;refine hk ψ u _ _ w g hle (hg.less fun x o2 hx=>?_) hu (h6 u o m m2 e1);rcases PM.aj aa _ m x o2 hx with⟨j1,j2⟩|⟨j1,j2⟩
  ·subst j1;injection j2 with j2;subst j2;exact PM.gne (by omega) (by omega) (PM.gne (by omega) (by omega) (PM.geq (by omega)))
  ·have q2:x≠n:=fun e=>by subst e;rw[h3]at j2;cases j2
   by_cases q:x=b
   ·subst q;rw[h4]at j2;injection j2 with j2;subst j2;exact PM.geq (by omega)
   ·exact PM.gne (by omega) q (PM.gne (by omega) q2 (PM.gne (by omega) j1 (Mv (by omega) h1 j2 q q2)))
def mi (B:Sr->Smp->List AV->AV->Prop) (args:List AV) (H:AH) (n:Nat) (κ:PK):Prop:=match args with
 |x::ar=>∃(b:Nat) (A C:List HP) (p:Nat×Nat) (S:Sr) (L:Smp) (v:AV),x=aQ p/\b<n/\n<700000/\ie H 5 n=true/\H.get b=some (.sep (aI (A++cD p S L::C)))/\B S L ar v/\κ v H (n+4)
 |_=>False
theorem zT (B:Sr->Smp->List AV->AV->Prop):iC (mi B):=fun args H n κ hs=>by
 unfold mi at*;split at hs
 ·obtain⟨b,A,C,p,S,L,v,h1,h2,h3,h4,h5,h6,h7⟩:=hs;exact⟨v,H,n+4,h7,fun _ _ h=>h,Nat.le_add_right _ _,fun κ' h=>⟨b,A,C,p,S,L,v,h1,h2,h3,h4,h5,h6,h⟩⟩
 ·exact hs.elim
theorem ai.ql {f:FuncId} {B:Sr->Smp->List AV->AV->Prop} (h:ai f (rh B)):ai f (mi B):=fun args H n κ hs=>by
 unfold mi at hs;split at hs
 ·obtain⟨b,A,C,p,S,L,v,h1,h2,h3,h4,h5,h6,h7⟩:=hs;exact h.sl _ H n κ ⟨b,A,C,cD p S L,v,n+4,h2,by omega,dY (k:=0) h4 (by decide),h5,by omega,⟨n,p,S,L,v,h1,by omega,qi (H:=H) (b:=b) (A:=A) (C:=C) (by omega),kf h4 h3 h2,h6,rfl,rfl,rfl⟩,h7⟩
 ·exact hs.elim
def wD (B:Smp->List AV->Smp->Prop) (args:List AV) (H:AH) (n:Nat) (κ:PK):Prop:=match args with
 |x::ar=>∃(b:Nat) (A C:List HP) (p:Nat×Nat) (S:Sr) (L O:Smp),x=aQ p/\b<n/\n<700000/\ie H 5 n=true/\H.get b=some (.sep (aI (A++cD p S L::C)))/\B L ar O/\κ (.rw (n+4) 0 O.length 2 0) (H.set (some (.cells (smp O) true)) aa (n+4)) (n+5)
 |_=>False
theorem SU (B:Smp->List AV->Smp->Prop):iC (wD B):=fun args H n κ hs=>by
 unfold wD at*;split at hs
 ·obtain⟨b,A,C,p,S,L,O,h1,h2,h3,h4,h5,h6,h7⟩:=hs;exact⟨_,_,_,h7,fun x o hb=>PM.gne (by omega) (fun e=>by subst e;rw[dY (k:=4) h4 (by decide)]at hb;cases hb) hb,Nat.le_add_right _ _,fun κ' h=>⟨b,A,C,p,S,L,O,h1,h2,h3,h4,h5,h6,h⟩⟩
 ·exact hs.elim
theorem ai.qm {f:FuncId} {B:Smp->List AV->Smp->Prop} (h:ai f (Ge B)):ai f (wD B):=fun args H n κ hs=>by
 unfold wD at hs;split at hs
 ·obtain⟨b,A,C,p,S,L,O,h1,h2,h3,h4,h5,h6,h7⟩:=hs;refine h.s2 _ H n κ ⟨b,A,C,cD p S L,fun v o m n2=>v= .rw (n+4) 0 O.length 2 0/\o= .cells (smp O) true/\m=n+4/\n2=n+5,h2,h3,dY (k:=0) h4 (by decide),h5,⟨n,p,S,L,O,h1,by omega,qi (by omega),kf h4 h3 h2,h6,?_⟩,fun v o m n2 ⟨e1,e2,e3,e4⟩=>by subst e1 e2 e3 e4;exact h7⟩;exact⟨_,n+4,by omega,by omega,rfl,rfl,rfl,rfl,rfl⟩
 ·exact hs.elim
def GI (args:List AV) (H:AH) (n:Nat) (κ:PK):Prop:=match args with
 | [x,y,z]=>∃(b:Nat) (A C:List HP) (p:Nat×Nat) (S:Sr) (L:Smp) (t v q:Int) (S':Sr) (L':Smp) (e:Int),x=aQ p/\b<n/\n<700000/\ie H 5 n=true/\H.get b=some (.sep (aI (A++cD p S L::C)))/\mR y t v/\mk z= .si .i64 q/\aN v/\L.length<=40000/\il S L t v q=((S',L'),e)/\(jQ S' L'->κ (.si .i64 e) (H.set (some (.sep (aI (A++cD p S' L'::C)))) aa b) (n+5))
 |_=>False
theorem Mx:ai 72 GI:=fun args H n κ hs=>by
 unfold GI at hs;split at hs
 ·obtain⟨b,A,C,p,S,L,t,v,q,S',L',e,h1,h2,h3,h4,h5,h6,h7,h8,h9,h10,h11⟩:=hs;refine Sj.s1 _ H n κ ⟨b,A,C,cD p S L,fun u Q' n2=>jQ S' L'/\u= .si .i64 e/\Q'=cD p S' L'/\n2=n+5,h2,h3,dY (k:=0) h4 (by decide),h5,⟨n,p,S,L,t,v,q,S',L',e,h1,by omega,qi (by omega),kf h4 h3 h2,h6,h7,h8,h9,h10,fun ho=>⟨_,rfl,ho,rfl,rfl,rfl⟩⟩,fun v o n2 ⟨e0,e1,e2,e3⟩=>by subst e1 e2 e3;exact h11 e0⟩
 ·exact hs.elim
def ya (args:List AV) (H:AH) (n:Nat) (κ:PK):Prop:=match args with
 | [x,y,z]=>∃(b:Nat) (A C:List HP) (p:Nat×Nat) (S:Sr) (L:Smp) (a c:Int) (L':Smp) (m:Nat),x=aQ p/\b<n/\n<700000/\ie H 5 n=true/\H.get b=some (.sep (aI (A++cD p S L::C)))/\mk y= .si .i64 a/\mk z= .si .i64 c/\L.length<=40000/\aO L a c=L'/\L.length-L'.length=m/\(jQ S L'->κ (.si .i64 (m:Int)) (H.set (some (.sep (aI (A++cD p S L'::C)))) aa b) (n+5))
 |_=>False
theorem zU:ai 100 ya:=fun args H n κ hs=>by
 unfold ya at hs;split at hs
 ·obtain⟨b,A,C,p,S,L,a,c,L',m,h1,h2,h3,h4,h5,h6,h7,h9,h10,h12,h11⟩:=hs;refine Sk.s1 _ H n κ ⟨b,A,C,cD p S L,fun u Q' n2=>jQ S L'/\u= .si .i64 (m:Int)/\Q'=cD p S L'/\n2=n+5,h2,h3,dY (k:=0) h4 (by decide),h5,⟨n,p,S,L,a,c,L',m,h1,by omega,qi (by omega),kf h4 h3 h2,h6,h7,h9,h10,h12,fun ho=>⟨_,rfl,ho,rfl,rfl,rfl⟩⟩,fun v o n2 ⟨e0,e1,e2,e3⟩=>by subst e1 e2 e3;exact h11 e0⟩
 ·exact hs.elim
def My (args:List AV) (H:AH) (n:Nat) (κ:PK):Prop:=match args with
 | [x,y,z]=>∃(b:Nat) (A C:List HP) (p:Nat×Nat) (S:Sr) (L:Smp) (r q:Int) (S':Sr) (L':Smp) (e:Int),x=aQ p/\b<n/\n<700000/\ie H 5 n=true/\H.get b=some (.sep (aI (A++cD p S L::C)))/\mk y= .si .i64 r/\mk z= .si .i64 q/\L.length<=40000/\oe S L r q=((S',L'),e)/\(jQ S' L'->κ (.si .i64 e) (H.set (some (.sep (aI (A++cD p S' L'::C)))) aa b) (n+5))
 |_=>False
theorem SV:ai 108 My:=fun args H n κ hs=>by
 unfold My at hs;split at hs
 ·obtain⟨b,A,C,p,S,L,r,q,S',L',e,h1,h2,h3,h4,h5,h6,h7,h9,h10,h11⟩:=hs;refine Sl.s1 _ H n κ ⟨b,A,C,cD p S L,fun u Q' n2=>jQ S' L'/\u= .si .i64 e/\Q'=cD p S' L'/\n2=n+5,h2,h3,dY (k:=0) h4 (by decide),h5,⟨n,p,S,L,r,q,S',L',e,h1,by omega,qi (by omega),kf h4 h3 h2,h6,h7,h9,h10,fun ho=>⟨_,rfl,ho,rfl,rfl,rfl⟩⟩,fun v o n2 ⟨e0,e1,e2,e3⟩=>by subst e1 e2 e3;exact h11 e0⟩
 ·exact hs.elim
def Mz (args:List AV) (H:AH) (n:Nat) (κ:PK):Prop:=match args with
 | [x]=>∃(b:Nat) (A C:List HP) (p:Nat×Nat) (S:Sr) (L:Smp),x=aQ p/\b<n/\n<700000/\ie H 9 n=true/\H.get b=some (.sep (aI (A++cD p S L::C)))/\∀p2,κ (aQ p2) (H.set (some (.sep (cD p2 S L))) aa (n+1)) (n+8)
 |_=>False
theorem MA:ai 58 Mz:=fun args H n κ hs=>by
 unfold Mz at hs;split at hs
 ·obtain⟨b,A,C,p,S,L,h1,h2,h3,h4,h5,h6⟩:=hs;refine ON.s2 _ H n κ ⟨b,A,C,cD p S L,fun v o m n2=>∃p2,v=aQ p2/\o= .sep (cD p2 S L)/\m=n+1/\n2=n+8,h2,h3,dY (k:=0) h4 (by decide),h5,⟨n,p,S,L,h1,by omega,qi (by omega),kf (CD (by decide) h4) h3 h2,⟨by omega,lq (by omega) h2 (dY (k:=5) h4 (by decide)),lq (by omega) h2 (dY (k:=6) h4 (by decide)),lq (by omega) h2 (dY (k:=7) h4 (by decide)),lq (by omega) h2 (dY (k:=8) h4 (by decide))⟩,fun p2=>⟨_,n+1,by omega,by omega,rfl,p2,rfl,rfl,rfl,rfl⟩⟩,fun v o m n2 ⟨p2,e1,e2,e3,e4⟩=>by subst e1 e2 e3 e4;exact h6 p2⟩
 ·exact hs.elim
theorem QF:ai 24 (mi OK):=Un.ql
theorem UT:ai 85 (mi Se):=Uo.ql
theorem UU:ai 86 (mi Sf):=Uq.ql
theorem UW:ai 18 (mi Sh):=Ur.ql
theorem QG:ai 21 (wD Eh):=Us.qm
theorem oY (x:Int):aN (IntKind.i64.wrap x):=by
 rw[IntKind.wrap_i64];unfold aN;omega
theorem MB (a b:Int):aN (DG a b):=by
 unfold DG jH;have:=oY (a+b);split
 ·split<;>exact⟨by decide,by decide⟩
 ·exact this
theorem O6 {L:Smp} (h:∀x∈L,aN x.2):aN (nr L).n/\aN (nr L).sum/\aN (nr L).least/\aN (nr L).great/\aN (nr L).first/\aN (nr L).last:=by
 have main:∀(L:Smp) (s:SS),(∀x∈L,aN x.2)->(aN s.n/\aN s.sum/\aN s.least/\aN s.great/\aN s.first/\aN s.last)->(aN (L.foldl (fun s x=>wR s x.2) s).n/\aN (L.foldl (fun s x=>wR s x.2) s).sum/\aN (L.foldl (fun s x=>wR s x.2) s).least/\aN (L.foldl (fun s x=>wR s x.2) s).great/\aN (L.foldl (fun s x=>wR s x.2) s).first/\aN (L.foldl (fun s x=>wR s x.2) s).last):=fun L=>by
  induction L with
  |nil=>exact fun s _ h=>h
  |cons x L ih=>
   intro s hL ⟨h1,h2,h3,h4,h5,h6⟩;have hx:=hL x List.mem_cons_self;refine ih (wR s x.2) (fun y hy=>hL y (List.mem_cons_of_mem _ hy)) ?_;have w:=oY (s.n+1);have cp:=MB s.sum x.2;unfold aN at*;unfold wR;split<;>exact⟨w,cp,by dsimp only;omega,by dsimp only;omega,by dsimp only;omega,by dsimp only;omega⟩
 have z:aN 0:=⟨by decide,by decide⟩;exact main L ss0 h ⟨z,z,z,z,z,z⟩
theorem IW {k:Int} {L:Smp} (h:∀x∈L,aN x.2):aN (yT k L):=by
 obtain⟨h1,h2,h3,h4,h5,h6⟩:=O6 h;have z:aN 0:=⟨by decide,by decide⟩;have w:=oY ((nr L).great-(nr L).least);unfold yT Nw E9
 repeat' split
 all_goals first|exact z|assumption|exact⟨by decide,by decide⟩
def bB (r:Rl) (t:Int):Int:=iX t r.size r.align
def eB (r:Rl) (t:Int):Int:=vh (bB r t) r.size r.align
theorem CE {t s a:Int}:0<=vh t s a/\vh t s a<=2199023255552:=by
 have:=jm (t:=t) (s:=s) (a:=a);unfold vh;split
 ·rename_i h;simp only[tF,decide_eq_true_eq]at h;split<;>omega
 ·omega
def inB (r:Rl) (t:Int) (L:Smp):Smp:=bX (bB r t) (eB r t-1) L
def CF (r:Rl) (t:Int) (S:Sr):Prop:=S.mx<0∨bB r S.mx<eB r t
instance (r:Rl) (t:Int) (S:Sr):Decidable (CF r t S):=by unfold CF;infer_instance
def ik (r:Rl) (t:Int) (s d:iK):Sr×Smp:=if CF r t s.S then(d.S,d.L)else if NA r.kind (inB r t s.L)=true then(il d.S d.L (bB r t) (yT r.kind (inB r t s.L)) 3).1 else(d.S,aO d.L (bB r t) (bB r t))
def cw (X:SpV) (r:Rl) (t:Int):SpV:=match X.K r.src,X.K r.dst with
 |some s,some d=>gW X r.dst {d with S:=(ik r t s d).1,L:=(ik r t s d).2}
 |_,_=>X
theorem GJ {X:SpV} {k:Tx} {e:iK} (h:X.K k=some e):gW X k e=X:=by
 unfold gW
 have:(fun x=>if x=k then some e else X.K x)=X.K:=funext fun x=>by
  by_cases q:x=k
  ·subst q;rw[if_pos rfl,h]
  ·rw[if_neg q]
 rw[this]
def SW:DT:=[(1000002,[]),(1,[(some 1000000,[14,15,14,10,14,12,14,13,15,10,15,12,15,13,16,10,16,12,16,13]),(none,[0,1,2,3,4,5,6,7,8,9,11,10,12,13,14,15,16,17]),(none,[0,1,2,3,4,5,6,7,8,9,11,10,12,13,15,14,16,17]),(none,[0,1,2,3,4,5,6,7,8,9,11,10,12,14,13,15,16,17]),(none,[0,1,2,3,4,5,6,7,8,9,11,10,12,14,15,13,16,17]),(none,[0,1,2,3,4,5,6,7,8,9,11,10,12,14,15,16,13,17]),(none,[0,1,2,3,4,5,6,7,8,9,11,10,12,15,13,14,16,17]),(none,[0,1,2,3,4,5,6,7,8,9,11,10,12,15,14,13,16,17]),(none,[0,1,2,3,4,5,6,7,8,9,11,10,12,15,14,16,13,17]),(none,[0,1,2,3,4,5,6,7,8,9,11,10,14,12,13,15,16,17]),(none,[0,1,2,3,4,5,6,7,8,9,11,10,14,12,15,13,16,17]),(none,[0,1,2,3,4,5,6,7,8,9,11,10,14,12,15,16,13,17]),(none,[0,1,2,3,4,5,6,7,8,9,11,10,14,15,12,13,16,17]),(none,[0,1,2,3,4,5,6,7,8,9,11,10,14,15,12,16,13,17]),(none,[0,1,2,3,4,5,6,7,8,9,11,10,14,15,16,12,13,17]),(none,[0,1,2,3,4,5,6,7,8,9,11,10,15,12,13,14,16,17]),(none,[0,1,2,3,4,5,6,7,8,9,11,10,15,12,14,13,16,17]),(none,[0,1,2,3,4,5,6,7,8,9,11,10,15,12,14,16,13,17]),(none,[0,1,2,3,4,5,6,7,8,9,11,10,15,14,12,13,16,17]),(none,[0,1,2,3,4,5,6,7,8,9,11,10,15,14,12,16,13,17]),(none,[0,1,2,3,4,5,6,7,8,9,11,10,15,14,16,12,13,17]),(none,[0,1,2,3,4,5,6,7,8,9,11,12,14,10,13,15,16,17]),(none,[0,1,2,3,4,5,6,7,8,9,11,12,14,10,15,13,16,17]),(none,[0,1,2,3,4,5,6,7,8,9,11,12,14,10,15,16,13,17]),(none,[0,1,2,3,4,5,6,7,8,9,11,12,14,15,10,13,16,17]),(none,[0,1,2,3,4,5,6,7,8,9,11,12,14,15,10,16,13,17]),(none,[0,1,2,3,4,5,6,7,8,9,11,12,14,15,16,10,13,17]),(none,[0,1,2,3,4,5,6,7,8,9,11,12,15,10,13,14,16,17]),(none,[0,1,2,3,4,5,6,7,8,9,11,12,15,10,14,13,16,17]),(none,[0,1,2,3,4,5,6,7,8,9,11,12,15,10,14,16,13,17]),(none,[0,1,2,3,4,5,6,7,8,9,11,12,15,14,10,13,16,17]),(none,[0,1,2,3,4,5,6,7,8,9,11,12,15,14,10,16,13,17]),(none,[0,1,2,3,4,5,6,7,8,9,11,12,15,14,16,10,13,17]),(none,[0,1,2,3,4,5,6,7,8,9,11,14,10,12,13,15,16,17]),(none,[0,1,2,3,4,5,6,7,8,9,11,14,10,12,15,13,16,17]),(none,[0,1,2,3,4,5,6,7,8,9,11,14,10,12,15,16,13,17]),(none,[0,1,2,3,4,5,6,7,8,9,11,14,10,15,12,13,16,17]),(none,[0,1,2,3,4,5,6,7,8,9,11,14,10,15,12,16,13,17]),(none,[0,1,2,3,4,5,6,7,8,9,11,14,10,15,16,12,13,17]),(none,[0,1,2,3,4,5,6,7,8,9,11,14,12,15,10,13,16,17]),(none,[0,1,2,3,4,5,6,7,8,9,11,14,12,15,10,16,13,17]),(none,[0,1,2,3,4,5,6,7,8,9,11,14,12,15,16,10,13,17]),(none,[0,1,2,3,4,5,6,7,8,9,11,14,15,10,12,13,16,17]),(none,[0,1,2,3,4,5,6,7,8,9,11,14,15,10,12,16,13,17]),(none,[0,1,2,3,4,5,6,7,8,9,11,14,15,10,16,12,13,17]),(none,[0,1,2,3,4,5,6,7,8,9,11,14,15,12,16,10,13,17]),(none,[0,1,2,3,4,5,6,7,8,9,11,14,15,16,10,12,13,17]),(none,[0,1,2,3,4,5,6,7,8,9,11,15,10,12,13,14,16,17]),(none,[0,1,2,3,4,5,6,7,8,9,11,15,10,12,14,13,16,17]),(none,[0,1,2,3,4,5,6,7,8,9,11,15,10,12,14,16,13,17]),(none,[0,1,2,3,4,5,6,7,8,9,11,15,10,14,12,13,16,17]),(none,[0,1,2,3,4,5,6,7,8,9,11,15,10,14,12,16,13,17]),(none,[0,1,2,3,4,5,6,7,8,9,11,15,10,14,16,12,13,17]),(none,[0,1,2,3,4,5,6,7,8,9,11,15,12,14,10,13,16,17]),(none,[0,1,2,3,4,5,6,7,8,9,11,15,12,14,10,16,13,17]),(none,[0,1,2,3,4,5,6,7,8,9,11,15,12,14,16,10,13,17]),(none,[0,1,2,3,4,5,6,7,8,9,11,15,14,10,12,13,16,17]),(none,[0,1,2,3,4,5,6,7,8,9,11,15,14,10,12,16,13,17]),(none,[0,1,2,3,4,5,6,7,8,9,11,15,14,10,16,12,13,17]),(none,[0,1,2,3,4,5,6,7,8,9,11,15,14,12,16,10,13,17]),(none,[0,1,2,3,4,5,6,7,8,9,11,15,14,16,10,12,13,17])]),
 (4,[(some 0,[6]),(some 0,[38]),(none,[39]),(some 0,[40]),(some 0,[41]),(some 0,[9,42]),(some 0,[6,42]),(some 0,[44,42]),(none,[45,42]),(some 1,[4,42]),(some 2,[47,42]),(some 3,[4,42]),(some 4,[49,42]),(none,[46,48,50,42]),(some 0,[43,51,42])]),
 (5,[(some 0,[4]),(some 0,[55]),(some 0,[6]),(some 0,[57]),(some 0,[8]),(some 0,[9]),(some 0,[60]),(none,[58,59,61]),(none,[56,62]),(some 0,[63]),(some 0,[54]),(some 0,[54]),(some 0,[64])])]
noncomputable def KBk:FuncId->EP:=aV 75 SW (cT 24 (mi OK) (cT 21 (wD Eh) (cT 54 (ve iX) (cT 55 (ve vh) (cT 56 (xE 9223372036854775807 ti) (aw 72 GI (aw 100 ya evP)))))))
theorem SX:aW KBk:=aq (a8 (a8 (a8 (a8 (a8 (ae (ae az zU) Mx) Ra Q7) Qf Bf) yS Bf) QG (SU _)) QF (zT _)) (by kernel_rfl) (by kernel_rfl)
noncomputable def bkJ (c:SpC) (r:Rl) (t:Int) (p1:Nat×Nat) (z1:Int) (p2:Nat×Nat) (z2:Int):AE×AH:=(mkE [(0,.ptr 0 (0)),(2,.si .i64 (t)),(4,.ptr 5 (0)),(6,.ptr 6 (0)),(7,.ptr 7 (0))],mkH [(0,.cells [.map 1,aQ c.px,aQ c.pg] true),(1,c.m.O kT gE),(2,.sep (IxB.Q c.x c.px)),(3,.sep (GrB.Q c.g c.pg)),(4,.sep (aI (aK c.m.A))),(5,.cells (ruC r) true),(6,.cells ([aQ p1,.si .i64 z1]) true),(7,.cells ([aQ p2,.si .i64 z2]) true)])
theorem GK {c:SpC} {r:Rl} {t:Int} {p1:Nat×Nat} {z1:Int} {p2:Nat×Nat} {z2:Int} {p n:Nat} {σ:AE} {H:AH} (j6:Nat) (j7:Nat) (hj:j6≠0/\j6≠1/\j6≠2/\j6≠3/\j6≠4/\j6≠5/\j6≠j7/\j7≠0/\j7≠1/\j7≠2/\j7≠3/\j7≠4/\j7≠5) (hp:p<=6) (e0:ak (pa 0) σ= .ptr 0 (0)) (e2:mk (ak (pa 2) σ)= .si .i64 (t)) (e4:ak (pa 4) σ= .ptr 5 (0)) (e6:ak (pa 6) σ= .ptr j6 (0)) (e7:ak (pa 7) σ= .ptr j7 (0)) (h0:H.get 0=some (.cells [.map 1,aQ c.px,aQ c.pg] true)) (h1:H.get 1=some (c.m.O kT gE)) (h2:H.get 2=some (.sep (IxB.Q c.x c.px))) (h3:H.get 3=some (.sep (GrB.Q c.g c.pg))) (h4:H.get 4=some (.sep (aI (aK c.m.A)))) (h5:H.get 5=some (.cells (ruC r) true)) (h6:∃l,H.get j6=some (.cells l true)/\l5 H 8 (fun b=>if b=6 then j6 else if b=7 then j7 else b) l ([aQ p1,.si .i64 z1])) (h7:∃l,H.get j7=some (.cells l true)/\l5 H 8 (fun b=>if b=6 then j6 else if b=7 then j7 else b) l ([aQ p2,.si .i64 z2])):Cov p σ H n ((bkJ c r t p1 z1 p2 z2).1,(bkJ c r t p1 z1 p2 z2).2,8):=
 Cov.ofB (fun b=>if b=6 then j6 else if b=7 then j7 else b) (by omega) (fun b hb=>by repeat' rw[if_neg (by omega)]) ⟨.ptr (by decide) e0,.int e2,.ptr (by decide) e4,.ptr (by decide) e6,.ptr (by decide) e7,trivial⟩ ⟨.inl ⟨_,h0,au.b9 (k:=2) rfl (by decide) (fun b hb=>by rw[if_neg (by omega),if_neg (by omega)])⟩,.inl ⟨_,h1,au.b9 (k:=0) (bg dw tz) (by decide) (fun b hb=>absurd hb (Nat.not_lt_zero b))⟩,.inl ⟨_,h2,au.sep _⟩,.inl ⟨_,h3,au.sep _⟩,.inl ⟨_,h4,au.sep _⟩,.inl ⟨_,h5,au.b9 (k:=0) rfl (by decide) (fun b hb=>absurd hb (Nat.not_lt_zero b))⟩,.inl (h6.elim fun l h=>⟨_,h.1,au.st h.2⟩),.inl (h7.elim fun l h=>⟨_,h.1,au.st h.2⟩),trivial⟩ rfl (fun x hx y hy=>by simp only[List.mem_cons,List.not_mem_nil,or_false]at hx hy;rcases hx with rfl|rfl|rfl|rfl|rfl|rfl|rfl|rfl<;>rcases hy with rfl|rfl|rfl|rfl|rfl|rfl|rfl|rfl<;>simp<;>omega)
theorem MC (X:SpV) (r:Rl) (t:Int) (c:SpC) (hc:cg X c) {s d:iK} (hs:X.K r.src=some s) (hd:X.K r.dst=some d) (ls:s.L.length<=30000) (ld:d.L.length<=30000):ax KBk 6 75 [.ptr 0 0,gR r,.si .i64 t] (mkH (bH (spO c) 0)) 5 (gj SpB (cw X r t) (.tup [])):=by
 obtain⟨p1,A1,A2,g1,a1,u1,q1⟩:=hc.at1 hs;obtain⟨p2,B1,B2,g2,a2,u2,q2⟩:=hc.at1 hd
 conv=>whnf
 refine xo.mk Unit 8 (fun _=>bkJ c r t p1 s.z p2 d.z) ?_ ?_
 focus
  conv=>whnf
  refine⟨?_,?_,?_,?_,?_,?_,?_,?_,?_,?_,?_,?_,?_,?_,?_,?_,?_,?_,?_,?_,?_,?_,?_,?_,?_,?_,?_,?_,?_,?_,?_,?_,?_,?_,?_,?_,?_,?_,?_,?_,?_,?_,?_,?_,?_,?_,?_,?_,?_,?_,?_,?_,?_,?_,?_,?_,?_,?_,?_,?_,trivial⟩
  all_goals
   conv=>whnf
   refine Ask.mk _ (aY (m:=c.m) (g:=gE) (k:=r.src) bN ow rfl rfl rfl qh g1) ?_
   conv=>whnf
   refine Ask.mk _ (aY (m:=c.m) (g:=gE) (k:=r.dst) bN ow rfl rfl rfl qh g2) ?_
   conv=>whnf
   first
    |exact⟨(),GK (c:=c) (r:=r) (t:=t) (p1:=p1) (z1:=s.z) (p2:=p2) (z2:=d.z) 6 7 (by decide) (by decide) rfl rfl rfl rfl rfl rfl rfl rfl rfl rfl rfl ⟨_,rfl,.cons (.aQ rfl) (.cons (.int rfl) .nil)⟩ ⟨_,rfl,.cons (.aQ rfl) (.cons (.int rfl) .nil)⟩⟩
    |exact⟨(),GK (c:=c) (r:=r) (t:=t) (p1:=p1) (z1:=s.z) (p2:=p2) (z2:=d.z) 7 6 (by decide) (by decide) rfl rfl rfl rfl rfl rfl rfl rfl rfl rfl rfl ⟨_,rfl,.cons (.aQ rfl) (.cons (.int rfl) .nil)⟩ ⟨_,rfl,.cons (.aQ rfl) (.cons (.int rfl) .nil)⟩⟩
 intro _;have hB:=jm (t:=t) (s:=r.size) (a:=r.align);have hE:=CE (t:=bB r t) (s:=r.size) (a:=r.align);have hw:IntKind.i64.wrap (eB r t-1)=eB r t-1:=al (by unfold eB;omega) (by unfold eB;omega)
 have e0:CF r t s.S->cw X r t=X:=fun q=>by
  unfold cw;rw[hs,hd];show gW X r.dst {d with S:=(ik r t s d).1,L:=(ik r t s d).2}=X;unfold ik;rw[if_pos q];exact GJ hd
 conv=>whnf
 refine⟨4,aK A1,aK A2,p1,s.S,s.L,_,rfl,by decide,by decide,rfl,congrArg (fun x=>some (AO.sep (aI x))) q1,⟨rfl,rfl⟩,?_⟩
 conv=>whnf
 refine ag.dec (fun z1=>?_) (fun z1=>?_)
 focus
  have e:=e0 (.inl z1);rw[e]
  conv=>whnf
  exact⟨_,c,.told rfl,hc,bU rfl rfl rfl rfl rfl⟩
 conv=>whnf
 refine⟨4,aK A1,aK A2,p1,s.S,s.L,_,rfl,by decide,by decide,rfl,congrArg (fun x=>some (AO.sep (aI x))) q1,⟨rfl,rfl⟩,?_⟩
 conv=>whnf
 refine ag.dec (fun z2=>?_) (fun z2=>?_)
 focus
  have e:=e0 (.inr z2);rw[e]
  conv=>whnf
  exact⟨_,c,.told rfl,hc,bU rfl rfl rfl rfl rfl⟩
 have hno:¬CF r t s.S:=fun q=>q.elim z1 z2
 conv=>whnf
 refine⟨4,aK A1,aK A2,p1,s.S,s.L,inB r t s.L,rfl,by decide,by decide,rfl,congrArg (fun x=>some (AO.sep (aI x))) q1,⟨_,_,bB r t,eB r t-1,rfl,rfl,congrArg (AV.si .i64) hw,rfl⟩,?_⟩
 conv=>whnf
 refine⟨inB r t s.L,lR.VQ rfl rfl,Nat.le_trans (List.length_filter_le _ _) (by omega),?_⟩
 conv=>whnf
 refine ag.nsb (fun z3=>?_) (fun z3=>?_)
 focus
  obtain⟨L',hL'⟩:∃L',L'=aO d.L (bB r t) (bB r t):=⟨_,rfl⟩
  conv=>whnf
  refine⟨4,aK B1,aK B2,p2,d.S,d.L,bB r t,bB r t,L',_,rfl,by decide,by decide,rfl,congrArg (fun x=>some (AO.sep (aI x))) q2,rfl,rfl,by omega,hL'.symm,rfl,fun ho=>?_⟩;obtain⟨k1,k2,k3⟩:=hc.wW hd g2 a2 u2 ho
  have e:cw X r t=gW X r.dst {d with S:=d.S,L:=L'}:=by
   unfold cw;rw[hs,hd];show gW X r.dst {d with S:=(ik r t s d).1,L:=(ik r t s d).2}=_;unfold ik;rw[if_neg hno,if_neg (by rw[z3];simp),hL']
  rw[e]
  conv=>whnf
  exact⟨_,{c with m:=c.m.put r.dst ⟨p2,d.S,L',d.z⟩},.told rfl,k1,bU rfl (congrArg some k2.symm) rfl rfl (congrArg (fun x=>some (AO.sep (aI x))) k3.symm)⟩
 obtain⟨Y,hY⟩:∃Y,Y=il d.S d.L (bB r t) (yT r.kind (inB r t s.L)) 3:=⟨_,rfl⟩;obtain⟨⟨S',L'⟩,e⟩:=Y;have h64:aN (yT r.kind (inB r t s.L)):=IW fun x hx=>((hc.ser _ _ hs).dW x (List.mem_filter.1 hx).1).2
 conv=>whnf
 refine⟨4,aK B1,aK B2,p2,d.S,d.L,bB r t,yT r.kind (inB r t s.L),3,S',L',e,rfl,by decide,by decide,rfl,congrArg (fun x=>some (AO.sep (aI x))) q2,⟨_,_,rfl,rfl,rfl⟩,rfl,h64,by omega,hY.symm,fun ho=>?_⟩;obtain⟨k1,k2,k3⟩:=hc.wW hd g2 a2 u2 ho
 have e2:cw X r t=gW X r.dst {d with S:=S',L:=L'}:=by
  unfold cw;rw[hs,hd];show gW X r.dst {d with S:=(ik r t s d).1,L:=(ik r t s d).2}=_;unfold ik;rw[if_neg hno,if_pos z3,<-hY]
 rw[e2]
 conv=>whnf
 exact⟨_,{c with m:=c.m.put r.dst ⟨p2,S',L',d.z⟩},.told rfl,k1,bU rfl (congrArg some k2.symm) rfl rfl (congrArg (fun x=>some (AO.sep (aI x))) k3.symm)⟩
def SY (X:SpV) (cs:List AV) (X':SpV) (v:AV):Prop:=∃r t s d,cs=[gR r,.si .i64 t]/\X.K r.src=some s/\X.K r.dst=some d/\s.L.length<=30000/\d.L.length<=30000/\X'=cw X r t/\v= .tup []
theorem MD:ai 75 (ij 5 SpB SY):=wq (an SX 6 _) (by kernel_rfl) SpB rfl (by decide) fun X cs X' v ⟨r,t,s,d,h1,h2,h3,h4,h5,h6,h7⟩=>by
 subst h1 h6 h7;exact⟨rfl,rfl,fun c hc=>MC X r t c hc h2 h3 h4 h5⟩
end Go.Proofs.YtflehenfikoniaaGreat
namespace Go.Proofs.YtflehenfikoniaaGreat
open Go Go.RowKit
section
variable {V:Type}
theorem ry {A:List (Tx×V)} (h:(A.map Prod.fst).Nodup) {k:Tx} {v:V}:(k,v)∈A<->aJ A k=some v:=⟨dX h,cW⟩
open Classical in
noncomputable def wE (f:Tx->Option V):List (Tx×V):=if h:∃A:List (Tx×V),(A.map Prod.fst).Nodup/\∀k,aJ A k=f k then h.choose else []
theorem mj {f:Tx->Option V} {A:List (Tx×V)} (h1:(A.map Prod.fst).Nodup) (h2:∀k,aJ A k=f k):((wE f).map Prod.fst).Nodup/\∀k,aJ (wE f) k=f k:=by
 have h:∃A:List (Tx×V),(A.map Prod.fst).Nodup/\∀k,aJ A k=f k:=⟨A,h1,h2⟩;unfold wE;rw[dif_pos h];exact h.choose_spec
end
theorem wF {A B:List Tx} (h:∀x,x∈A<->x∈B):aG A=aG B:=sx (bd A).1 (bd B).1 fun x=>by rw[(bd A).2,(bd B).2];exact h x
theorem zV {A B:Gr} (hA:(A.map Prod.fst).Nodup) (hB:(B.map Prod.fst).Nodup) (h:∀k,aJ A k=aJ B k) (so:Rl->Bool):pkF A so=pkF B so:=by
 have hm:∀e:Tx×Rl,e∈A<->e∈B:=fun e=>by
  obtain⟨k,v⟩:=e;rw[ry hA,ry hB,h]
 have e1:aG ((A.filter fun e=>so e.2).map Prod.fst)=aG ((B.filter fun e=>so e.2).map Prod.fst):=wF fun x=>by
  simp only[List.mem_map,List.mem_filter,hm]
 have e2:aG ((A.filter fun e=>so e.2).map fun e=>e.2.src)=aG ((B.filter fun e=>so e.2).map fun e=>e.2.src):=wF fun x=>by
  simp only[List.mem_map,List.mem_filter,hm]
 have e3:∀d,rul A d=rul B d:=fun d=>by unfold rul;rw[h]
 unfold pkF;rw[e1,e2];congr 1;funext s;unfold pkS;have:rul A=rul B:=funext e3;rw[this]
theorem CG {α:Type} (p:α->Bool):∀N:List α,(N.filter p).length+(N.filter fun d=>!p d).length=N.length
 | []=>rfl
 |d::N=>by
  have ih:=CG p N;cases h:p d<;>simp[h]<;>omega
theorem yb {α β:Type} [DecidableEq β] (f:α->β):∀(S:List β) (N:List α),S.Nodup->(S.flatMap fun s=>N.filter fun d=>decide (f d=s)).length<=N.length
 | [],N,_=>by simp
 |s::S,N,h=>by
  have h1:=List.nodup_cons.1 h;have ih:=yb f S (N.filter fun d=>!decide (f d=s)) h1.2
  have e:(S.flatMap fun s'=>N.filter fun d=>decide (f d=s'))=S.flatMap fun s'=>(N.filter fun d=>!decide (f d=s)).filter fun d=>decide (f d=s'):=by
   have:∀S':List β,(∀x∈S',x≠s)->(S'.flatMap fun s'=>N.filter fun d=>decide (f d=s'))=S'.flatMap fun s'=>(N.filter fun d=>!decide (f d=s)).filter fun d=>decide (f d=s'):=fun S'=>by
    induction S' with
    |nil=>intro _;rfl
    |cons x S' ih=>
     intro hx;rw[List.flatMap_cons,List.flatMap_cons,ih fun y hy=>hx y (List.mem_cons_of_mem _ hy)];congr 1;rw[List.filter_filter];refine List.filter_congr fun d _=>?_
     have:=hx x List.mem_cons_self;by_cases q:f d=x
     ·have q2:¬f d=s:=fun e=>this (q.symm.trans e)
      simp[q,this]
     ·simp[q]
   exact this S fun x hx e=>h1.1 (e▸hx)
  rw[List.flatMap_cons,List.length_append,e];have l:=CG (fun d=>decide (f d=s)) N;omega
theorem sN {L:List Tx} (h:UpT L):L.Nodup:=h.imp fun{a b} q e=>by
 subst e;rw[gI]at q;cases q
theorem O7 (R:Gr) (so:Rl->Bool):(pkF R so).length<=R.length:=by
 have h1:=yb (fun d=>(rul R d).src) (aG ((R.filter fun e=>so e.2).map fun e=>e.2.src)) (aG ((R.filter fun e=>so e.2).map Prod.fst)) (sN (bd _).1);have h2:=c7 ((R.filter fun e=>so e.2).map Prod.fst);rw[List.length_map]at h2;have h3:=m0 (p:=fun e:Tx×Rl=>so e.2) R
 have e:(pkF R so).length=((aG ((R.filter fun e=>so e.2).map fun e=>e.2.src)).flatMap fun s=>(aG ((R.filter fun e=>so e.2).map Prod.fst)).filter fun d=>decide ((rul R d).src=s)).length:=by
  unfold pkF pkS;rw[List.length_flatMap,List.length_flatMap];congr 1;refine List.map_congr_left fun s _=>?_
  rw[List.length_map]
 omega
section
variable {V:Type}
def mpA (A:List (Tx×V)):MpC Tx V:=⟨A,List.range A.length,A.length⟩
theorem zW {A:List (Tx×V)} (h:(A.map Prod.fst).Nodup):(mpA A).Ok:=⟨List.length_range,List.nodup_range,fun x hx=>List.mem_range.1 hx,h⟩
theorem sO {A:List (Tx×V)} (h:(A.map Prod.fst).Nodup) (k x:Tx):aJ (dQ A k) x=if x=k then none else aJ A x:=by
 have:=Cv (zW h) k x;rw[wu]at this;exact this
theorem sP {A:List (Tx×V)} (h:(A.map Prod.fst).Nodup) (k:Tx) (v:V) (x:Tx):aJ (je A k v) x=if x=k then some v else aJ A x:=by
 have:=wj (zW h) k v x;rw[Gz]at this;exact this
theorem zX {A:List (Tx×V)} (h:(A.map Prod.fst).Nodup) (k:Tx):((dQ A k).map Prod.fst).Nodup:=by
 have:=((zW h).del k).key;rw[wu]at this;exact this
theorem zY {A:List (Tx×V)} (h:(A.map Prod.fst).Nodup) (k:Tx) (v:V):((je A k v).map Prod.fst).Nodup:=by
 have:=((zW h).put k v).key;rw[Gz]at this;exact this
theorem rz (A:List (Tx×V)) (k:Tx):(dQ A k).length<=A.length:=by
 unfold dQ;split
 ·exact Nat.le_refl _
 ·exact List.length_eraseIdx_le _ _
theorem CH (A:List (Tx×V)) (k:Tx) (v:V):(je A k v).length<=A.length+1:=by
 unfold je;split
 ·simp
 ·rw[List.length_set];omega
end
theorem yc:∀{L:List Rl} {A:Gr},(A.map Prod.fst).Nodup->((kO A L).map Prod.fst).Nodup/\(kO A L).length<=A.length/\∀d,aJ (kO A L) d=if d∈L.map Rl.dst then none else aJ A d
 | [],A,h=>⟨h,Nat.le_refl _,fun d=>by simp[kO]⟩
 |r::L,A,h=>by
  obtain⟨h1,h2,h3⟩:=yc (L:=L) (zX h r.dst);refine⟨h1,Nat.le_trans h2 (rz _ _),fun d=>?_⟩;show aJ (kO (dQ A r.dst) L) d=_;rw[h3,sO h];simp only[List.map_cons,List.mem_cons];by_cases q:d∈L.map Rl.dst
  ·simp[q]
  ·by_cases q2:d=r.dst<;>simp[q,q2]
theorem IX {x:Gr} (h:(x.map Prod.fst).Nodup) (hd:∀e∈x,e.2.dst=e.1) (k:Tx):((tw x k).map Prod.fst).Nodup/\(tw x k).length<=x.length/\∀d,aJ (tw x k) d=match aJ x d with
 |some r=>if wC k r=true then none else some r
 |none=>none:=by
 obtain⟨h1,h2,h3⟩:=yc (L:=pkF x (wC k)) h;refine⟨h1,h2,fun d=>?_⟩;unfold tw;rw[h3];cases e:aJ x d with
 |none=>simp
 |some r=>
  have hm:=cW e;have e1:r.dst=d:=hd _ hm
  have:d∈(pkF x (wC k)).map Rl.dst<->wC k r=true:=by
   rw[List.mem_map];constructor
   ·rintro⟨r2,h4,h5⟩;obtain⟨h6,h7⟩:=(zO h hd r2).1 h4;rw[h5]at h6;have:=dX h h6;rw[e]at this;injection this with this;subst this;exact h7
   ·intro q;exact⟨r,(zO h hd r).2 ⟨by rw[e1];exact hm,q⟩,e1⟩
  (try simp only[this])
end Go.Proofs.YtflehenfikoniaaGreat
namespace Go.Proofs.YtflehenfikoniaaGreat
open Go Go.RowKit
noncomputable def ofX (X:SpV) (k:Tx):List Rl:=ofG (wE X.R) k
noncomputable def ED (X:SpV):List Rl:=Mm (wE X.R)
section
variable {X:SpV} {c:SpC}
theorem cg.O8 (h:cg X c):((wE X.R).map Prod.fst).Nodup/\∀k,aJ (wE X.R) k=X.R k:=mj h.gk h.R
theorem cg.of (h:cg X c) (k:Tx):ofG c.g k=ofX X k:=zV h.gk h.O8.1 (fun d=>by rw[h.R,h.O8.2]) _
theorem cg.all (h:cg X c):Mm c.g=ED X:=zV h.gk h.O8.1 (fun d=>by rw[h.R,h.O8.2]) _
theorem cg.ME (h:cg X c) {k:Tx} {r:Rl}:r∈ofX X k<->X.R r.dst=some r/\r.src=k:=by
 rw[<-h.of];show r∈pkF c.g _<->_;rw[zO h.gk h.dst,ry h.gk,h.R,decide_eq_true_eq]
theorem cg.MF (h:cg X c) (k:Tx):(ofX X k).length<=1000:=by
 rw[<-h.of];have h1:=O7 c.g fun r=>decide (r.src=k)
 have h2:=h.gl;have h3:=h.n9;show(pkF c.g _).length<=1000;omega
end
section
variable {X:SpV} {r:Rl} {t:Int} {k:Tx}
theorem jL (X:SpV) (k:Tx) (e:iK) (x:Tx):(gW X k e).K x=if x=k then some e else X.K x:=rfl
theorem lr:(cw X r t).R=X.R/\(cw X r t).n=X.n:=by unfold cw;split<;>exact⟨rfl,rfl⟩
theorem oz (h:k≠r.dst):(cw X r t).K k=X.K k:=by
 unfold cw;split
 ·rw[jL,if_neg h]
 ·rfl
theorem kP:((cw X r t).K k).isSome=(X.K k).isSome:=by
 unfold cw;split
 ·rename_i s d h1 h2;rw[jL];split
  ·rename_i q;rw[q,h2];rfl
  ·rfl
 ·rfl
def Bnd (X:SpV) (b:Nat):Prop:=∀k e,X.K k=some e->e.L.length<=b
theorem mn {b:Nat} (h:Bnd X b):Bnd (cw X r t) (b+1):=fun k e he=>by
 unfold cw at he;split at he
 ·rename_i s d h1 h2;rw[jL]at he;split at he
  ·injection he with he;subst he;have hb:=h _ _ h2;show(ik r t s d).2.length<=b+1;unfold ik;split
   ·exact Nat.le_succ_of_le hb
   ·split
    ·exact Nat.le_trans (re _ _ _ _ _) (by omega)
    ·exact Nat.le_trans (List.length_filter_le _ _) (by omega)
  ·exact Nat.le_succ_of_le (h k e he)
 ·exact Nat.le_succ_of_le (h k e he)
end
def mxK (X:SpV) (k:Tx):Int:=match X.K k with
 |some e=>e.S.mx
 |none=> -1
def fe (k:Tx) (was t:Int) (X:SpV) (r:Rl):SpV:=cw (if 0<=was/\was<mxK X k then cw X r was else X) r t
def SZ (X:SpV) (k:Tx) (e:iK) (t v p:Int):SpV:=gW X k {e with S:=(il e.S e.L t v p).1.1,L:=(il e.S e.L t v p).1.2}
noncomputable def o8 (X:SpV) (k:Tx) (t v p:Int):SpV×Int:=if dz X k≠0 then(X,dz X k)else match X.K k with
 |none=>(X,5)
 |some e=>if(il e.S e.L t v p).2≠0 then(X,(il e.S e.L t v p).2)else((ofX X k).foldl (fe k e.S.mx t) (SZ X k e t v p),0)
def Links (X:SpV):Prop:=∀d r,X.R d=some r->(X.K r.src).isSome=true/\(X.K d).isSome=true
section
variable {X:SpV} {k:Tx} {was t:Int} {r:Rl}
theorem CI (h:k≠r.dst) {b:Nat} (hb:Bnd X b):(fe k was t X r).R=X.R/\(fe k was t X r).n=X.n/\(∀x,((fe k was t X r).K x).isSome=(X.K x).isSome)/\(fe k was t X r).K k=X.K k/\Bnd (fe k was t X r) (b+2):=by
 unfold fe;split
 ·exact⟨lr.1.trans lr.1,lr.2.trans lr.2,fun x=>kP.trans kP,(oz h).trans (oz h),mn (mn hb)⟩
 ·exact⟨lr.1,lr.2,fun x=>kP,oz h,fun x e he=>Nat.le_succ_of_le (mn hb x e he)⟩
theorem tA {k:Tx} {was t:Int}:∀(L:List Rl) {X:SpV} {b:Nat},(∀r∈L,k≠r.dst)->Bnd X b->(L.foldl (fe k was t) X).R=X.R/\(L.foldl (fe k was t) X).n=X.n/\(∀x,((L.foldl (fe k was t) X).K x).isSome=(X.K x).isSome)/\(L.foldl (fe k was t) X).K k=X.K k/\Bnd (L.foldl (fe k was t) X) (b+2*L.length)
 | [],X,b,_,hb=>⟨rfl,rfl,fun _=>rfl,rfl,hb⟩
 |r::L,X,b,h,hb=>by
  obtain⟨a1,a2,a3,a4,a5⟩:=CI (k:=k) (was:=was) (t:=t) (h r List.mem_cons_self) hb;obtain⟨b1,b2,b3,b4,b5⟩:=tA L (fun q hq=>h q (List.mem_cons_of_mem _ hq)) a5;refine⟨b1.trans a1,b2.trans a2,fun x=>(b3 x).trans (a3 x),b4.trans a4,?_⟩;rw[List.length_cons,show b+2*(L.length+1)=b+2+2*L.length by omega];exact b5
end
theorem sQ {r:Rl} (h:cX r=true):r.src≠r.dst:=by
 unfold cX at h;simp only[Bool.and_eq_true,Bool.not_eq_true',decide_eq_false_iff_not]at h;exact h.2.2.2.1
theorem MG {S S':Sr} {L L':Smp} {t v p e:Int} (h:il S L t v p=((S',L'),e)) (he:e≠0):S'=S/\L'=L:=by
 unfold il at h
 repeat' split at h
 all_goals(injection h with h1 h2;injection h1 with h3 h4;first|exact⟨h3.symm,h4.symm⟩|exact absurd h2.symm he)
def O9:DT:=[(1000005,[]),(4,[(some 1000000,[7,8]),(none,[0,1,2,3,4,5,6,7,8,9]),(none,[0,1,2,3,4,5,6,8,7,9])]),(5,[(some 0,[4]),(some 0,[26]),(some 0,[27]),(some 0,[28]),(some 0,[5]),(some 0,[29,30]),(some 0,[31]),(some 0,[6]),(some 0,[3])])]
def MH:DT:=[(1,[(some 0,[1]),(some 0,[6]),(some 0,[7]),(some 0,[1,8]),(some 0,[2,8]),(some 0,[10,8]),(some 0,[11,8]),(some 0,[12,8]),(some 0,[3,8]),(some 0,[13,14,8]),(some 0,[15,8]),(none,[16,8]),(some 0,[9,17,8])])]
noncomputable def UX:FuncId->EP:=aV 73 [] (cT 24 (mi OK) (aw 133 (dI 2 GrB Mn) (aw 75 (ij 5 SpB SY) (aw 61 (ij 5 SpB O5) (aw 72 GI (aw 100 ya evP))))))
theorem Pb:aW UX:=aq (a8 (ae (ae (ae (ae (ae az zU) Mx) zS) MD) Mo) QF (zT _)) (by kernel_rfl) (by kernel_rfl)
noncomputable def S1:FuncId->EP:=aV 32 O9 (aV 74 MH UX)
theorem GL:aW S1:=aq (aq Pb (by kernel_rfl) (by kernel_rfl)) (by kernel_rfl) (by kernel_rfl)
noncomputable def adJ (c:SpC) (k:Tx) (t:Int) (v:Int) (q:Int) (was:Int):AE×AH:=(mkE [(3,.si .i64 (q)),(4,.ptr 5 (0)),(5,.ptr 6 (0)),(6,.ptr 7 (0)),(10,.ptr 8 (0))],mkH [(0,.cells [.map 1,aQ c.px,aQ c.pg] true),(1,c.m.O kT gE),(2,.sep (IxB.Q c.x c.px)),(3,.sep (GrB.Q c.g c.pg)),(4,.sep (aI (aK c.m.A))),(5,.cells [.ptr 0 0] true),(6,.cells [.ss k] true),(7,.cells [.si .i64 t,.si .i64 v] true),(8,.cells ([.si .i64 was]) true)])
theorem GM {c:SpC} {k:Tx} {t:Int} {v:Int} {q:Int} {was:Int} {p n:Nat} {σ:AE} {H:AH} (j8:Nat) (hj:j8≠0/\j8≠1/\j8≠2/\j8≠3/\j8≠4/\j8≠5/\j8≠6/\j8≠7) (hp:p<=8) (e3:mk (ak (pa 3) σ)= .si .i64 (q)) (e4:ak (pa 4) σ= .ptr 5 (0)) (e5:ak (pa 5) σ= .ptr 6 (0)) (e6:ak (pa 6) σ= .ptr 7 (0)) (e10:ak (pa 10) σ= .ptr j8 (0)) (h0:H.get 0=some (.cells [.map 1,aQ c.px,aQ c.pg] true)) (h1:H.get 1=some (c.m.O kT gE)) (h2:H.get 2=some (.sep (IxB.Q c.x c.px))) (h3:H.get 3=some (.sep (GrB.Q c.g c.pg))) (h4:H.get 4=some (.sep (aI (aK c.m.A)))) (h5:H.get 5=some (.cells [.ptr 0 0] true)) (h6:H.get 6=some (.cells [.ss k] true)) (h7:H.get 7=some (.cells [.si .i64 t,.si .i64 v] true)) (h8:∃l,H.get j8=some (.cells l true)/\l5 H 9 (fun b=>if b=8 then j8 else b) l ([.si .i64 was])):Cov p σ H n ((adJ c k t v q was).1,(adJ c k t v q was).2,9):=
 Cov.ofB (fun b=>if b=8 then j8 else b) (by omega) (fun b hb=>by repeat' rw[if_neg (by omega)]) ⟨.int e3,.ptr (by decide) e4,.ptr (by decide) e5,.ptr (by decide) e6,.ptr (by decide) e10,trivial⟩ ⟨.inl ⟨_,h0,au.b9 (k:=2) rfl (by decide) (fun b hb=>by rw[if_neg (by omega)])⟩,.inl ⟨_,h1,au.b9 (k:=0) (bg dw tz) (by decide) (fun b hb=>absurd hb (Nat.not_lt_zero b))⟩,.inl ⟨_,h2,au.sep _⟩,.inl ⟨_,h3,au.sep _⟩,.inl ⟨_,h4,au.sep _⟩,.inl ⟨_,h5,au.b9 (k:=1) rfl (by decide) (fun b hb=>by rw[if_neg (by omega)])⟩,.inl ⟨_,h6,au.b9 (k:=0) rfl (by decide) (fun b hb=>absurd hb (Nat.not_lt_zero b))⟩,.inl ⟨_,h7,au.b9 (k:=0) rfl (by decide) (fun b hb=>absurd hb (Nat.not_lt_zero b))⟩,.inl (h8.elim fun l h=>⟨_,h.1,au.st h.2⟩),trivial⟩ rfl (fun x hx y hy=>by simp only[List.mem_cons,List.not_mem_nil,or_false]at hx hy;rcases hx with rfl|rfl|rfl|rfl|rfl|rfl|rfl|rfl|rfl<;>rcases hy with rfl|rfl|rfl|rfl|rfl|rfl|rfl|rfl|rfl<;>simp<;>omega)
noncomputable def adL (c:SpC) (k:Tx) (t:Int) (v:Int) (was:Int) (L:List Rl) (j:Nat):AE×AH:=(mkE [(2,AV.fn 74 [] [.ptr 8 0,.ptr 5 0,.ptr 6 0,.ptr 7 0]),(13,.fr L.length 5 (ruL L)),(14,.si .i64 ((L.length:Int))),(15,.si .i64 ((j:Int)))],mkH [(0,.cells [.map 1,aQ c.px,aQ c.pg] true),(1,c.m.O kT gE),(2,.sep (IxB.Q c.x c.px)),(3,.sep (GrB.Q c.g c.pg)),(4,.sep (aI (aK c.m.A))),(5,.cells [.ptr 0 0] true),(6,.cells [.ss k] true),(7,.cells [.si .i64 t,.si .i64 v] true),(8,.cells [.si .i64 was] true)])
theorem uj {c:SpC} {k:Tx} {t:Int} {v:Int} {was:Int} {L:List Rl} {j:Nat} {p n:Nat} {σ:AE} {H:AH} (hp:p<=14) (e2:ah H 14 (fun b=>b) (ak (pa 2) σ) (AV.fn 74 [] [.ptr 8 0,.ptr 5 0,.ptr 6 0,.ptr 7 0])) (e13:ak (pa 13) σ= .fr L.length 5 (ruL L)) (e14:mk (ak (pa 14) σ)= .si .i64 ((L.length:Int))) (e15:mk (ak (pa 15) σ)= .si .i64 ((j:Int))) (h0:H.get 0=some (.cells [.map 1,aQ c.px,aQ c.pg] true)) (h1:H.get 1=some (c.m.O kT gE)) (h2:H.get 2=some (.sep (IxB.Q c.x c.px))) (h3:H.get 3=some (.sep (GrB.Q c.g c.pg))) (h4:H.get 4=some (.sep (aI (aK c.m.A)))) (h5:H.get 5=some (.cells [.ptr 0 0] true)) (h6:H.get 6=some (.cells [.ss k] true)) (h7:H.get 7=some (.cells [.si .i64 t,.si .i64 v] true)) (h8:H.get 8=some (.cells [.si .i64 was] true)):Cov p σ H n ((adL c k t v was L j).1,(adL c k t v was L j).2,14):=
 Cov.ofA hp ⟨e2,ah.frE e13,.int e14,.int e15,trivial⟩ ⟨.inl ⟨_,h0,au.refl rfl⟩,.inl ⟨_,h1,au.refl (bg dw tz)⟩,.inl ⟨_,h2,au.sep _⟩,.inl ⟨_,h3,au.sep _⟩,.inl ⟨_,h4,au.sep _⟩,.inl ⟨_,h5,au.refl rfl⟩,.inl ⟨_,h6,au.refl rfl⟩,.inl ⟨_,h7,au.refl rfl⟩,.inl ⟨_,h8,au.refl rfl⟩,trivial⟩ rfl
theorem IY (X:SpV) (k:Tx) (t v p:Int) (c:SpC) (hc:cg X c) (h64:aN v) (hl:Links X) (hb:Bnd X 20000) {Y:SpV×Int} (hY:o8 X k t v p=Y):ax S1 6 32 [.ptr 0 0,.ss k,.agg [.si .i64 t,.si .i64 v],.si .i64 p] (mkH (bH (spO c) 0)) 5 (gj SpB Y.1 (.si .i64 Y.2)):=by
 obtain⟨Y1,Y2⟩:=Y
 conv=>whnf
 refine⟨X,[.ss k],X,_,_,c,rfl,by decide,.cons .same .nil,hc,sM rfl rfl rfl rfl rfl,⟨k,rfl,rfl,rfl⟩,fun c1 hc1=>?_⟩
 conv=>whnf
 refine ag.dh (fun z1=>?_) (fun z1=>?_)
 focus
  unfold o8 at hY;rw[if_pos z1]at hY;injection hY with e1 e2;subst e1 e2
  conv=>whnf
  exact⟨_,c1,.told rfl,hc1,bU rfl rfl rfl rfl rfl⟩
 have z1:dz X k=0:=z1;unfold o8 at hY;rw[if_neg (by rw[z1];exact fun q=>q rfl)]at hY
 have hK:(X.K k).isSome=true:=by
  unfold dz at z1;by_cases q:(X.K k).isSome=true
  ·exact q
  ·rw[if_neg q]at z1;cases z1
 obtain⟨e,he⟩:=Option.isSome_iff_exists.1 hK;rw[he]at hY;dsimp only at hY;obtain⟨p1,A1,A2,g1,a1,u1,q1⟩:=hc1.at1 he;have hL:=hb k e he
 conv=>whnf
 refine xo.mk Unit 9 (fun _=>adJ c1 k t v p e.S.mx) ?_ ?_
 focus
  conv=>whnf
  refine⟨?_,?_,trivial⟩
  focus
   conv=>whnf
   refine Ask.mk _ (aY (m:=c1.m) (g:=gE) (k:=k) bN ow rfl rfl rfl qh g1) ?_
   conv=>whnf
   refine⟨4,aK A1,aK A2,p1,e.S,e.L,_,rfl,by decide,by decide,rfl,congrArg (fun x=>some (AO.sep (aI x))) q1,⟨rfl,rfl⟩,?_⟩
   conv=>whnf
   exact⟨(),GM (c:=c1) (k:=k) (t:=t) (v:=v) (q:=p) (was:=e.S.mx) 12 (by decide) (by decide) rfl rfl rfl rfl rfl rfl rfl rfl rfl rfl rfl rfl rfl ⟨_,rfl,.cons (.int rfl) .nil⟩⟩
  focus
   conv=>whnf
   refine Ask.mk _ (aY (m:=c1.m) (g:=gE) (k:=k) bN ow rfl rfl rfl qh g1) ?_
   conv=>whnf
   refine⟨4,aK A1,aK A2,p1,e.S,e.L,_,rfl,by decide,by decide,rfl,congrArg (fun x=>some (AO.sep (aI x))) q1,⟨rfl,rfl⟩,?_⟩
   conv=>whnf
   exact⟨(),GM (c:=c1) (k:=k) (t:=t) (v:=v) (q:=p) (was:=e.S.mx) 8 (by decide) (by decide) rfl rfl rfl rfl rfl rfl rfl rfl rfl rfl rfl rfl rfl ⟨_,rfl,.cons (.int rfl) .nil⟩⟩
 intro _;obtain⟨Z,hZ⟩:∃Z,Z=il e.S e.L t v p:=⟨_,rfl⟩;have hK1:SZ X k e t v p=gW X k {e with S:=Z.1.1,L:=Z.1.2}:=by rw[hZ];rfl
 rw[hK1,<-hZ]at hY;obtain⟨⟨S',L'⟩,en⟩:=Z;dsimp only at hY hK1
 conv=>whnf
 refine Ask.mk _ (aY (m:=c1.m) (g:=gE) (k:=k) bN ow rfl rfl rfl qh g1) ?_
 conv=>whnf
 refine⟨4,aK A1,aK A2,p1,e.S,e.L,t,v,p,S',L',en,rfl,by decide,by decide,rfl,congrArg (fun x=>some (AO.sep (aI x))) q1,⟨_,_,rfl,rfl,rfl⟩,rfl,h64,by omega,hZ.symm,fun ho=>?_⟩;obtain⟨k1,k2,k3⟩:=hc1.wW he g1 a1 u1 ho
 conv=>whnf
 refine ag.dh (fun z2=>?_) (fun z2=>?_)
 focus
  rw[if_pos z2]at hY;injection hY with e1 e2;subst e1 e2
  have hs:gW X k {e with S:=S',L:=L'}=X:=by
   obtain⟨a1,a2⟩:S'=e.S/\L'=e.L:=MG hZ.symm z2;rw[a1,a2];exact GJ he
  rw[hs]at k1
  conv=>whnf
  exact⟨_,{c1 with m:=c1.m.put k ⟨p1,S',L',e.z⟩},.told rfl,k1,bU rfl (congrArg some k2.symm) rfl rfl (congrArg (fun x=>some (AO.sep (aI x))) k3.symm)⟩
 rw[if_neg (fun q=>q z2)]at hY;injection hY with e1 e2;subst e1 e2;obtain⟨Ls,hLs⟩:∃Ls,Ls=ofX X k:=⟨_,rfl⟩;have hR1:ofG c1.g k=Ls:=by rw[hLs];exact hc1.of k
 rw[<-hLs]
 have hmem:∀r∈Ls,k≠r.dst/\X.R r.dst=some r/\r.src=k:=fun r hr=>by
  rw[hLs]at hr;obtain⟨m1,m2⟩:=hc1.ME.1 hr;exact⟨fun q=>sQ (hc1.rul _ _ m1) (m2.trans q),m1,m2⟩
 have hlen:Ls.length<=1000:=by rw[hLs];exact hc1.MF k
 have hgl:c1.g.length<=1000:=Nat.le_trans hc1.gl hc1.n9;obtain⟨X1,hX1⟩:∃X1,X1=gW X k {e with S:=S',L:=L'}:=⟨_,rfl⟩;rw[<-hX1]at k1;rw[<-hX1]
 have hB1:Bnd X1 20001:=fun x y hy=>by
  rw[hX1,jL]at hy;split at hy
  ·injection hy with hy;subst hy;have:=re e.S e.L t v p;rw[<-hZ]at this;show L'.length<=20001;have h4:L'.length<=e.L.length+1:=this;omega
  ·exact Nat.le_trans (hb x y hy) (by decide)
 have hXk:X1.K k=some {e with S:=S',L:=L'}:=by rw[hX1,jL,if_pos rfl]
 have hXs:∀x,(X1.K x).isSome=(X.K x).isSome:=fun x=>by
  rw[hX1,jL];by_cases q:x=k
  ·subst q;rw[if_pos rfl,he];rfl
  ·rw[if_neg q]
 obtain⟨c2,hc2⟩:∃c2:SpC,c2={c1 with m:=c1.m.put k ⟨p1,S',L',e.z⟩}:=⟨_,rfl⟩;have k2':c1.m.O kT gE=c2.m.O kT gE:=by rw[hc2];exact k2.symm
 have k3':aK A1++cD p1 S' L'::aK A2=aK c2.m.A:=by rw[hc2];exact k3.symm
 have hpx:c2.px=c1.px/\c2.pg=c1.pg/\c2.x=c1.x/\c2.g=c1.g:=by rw[hc2];exact⟨rfl,rfl,rfl,rfl⟩
 rw[<-hc2]at k1
 conv=>whnf
 refine⟨3,c1.pg,c1.g,[.ss k],.fr Ls.length 5 (ruL Ls),rfl,by decide,by decide,.cons .same .nil,rfl,rfl,⟨k,rfl,hgl,by rw[hR1]⟩,?_⟩
 conv=>whnf
 refine aS.mk {w:Nat×SpC//w.1<=Ls.length/\cg ((Ls.take w.1).foldl (fe k e.S.mx t) X1) w.2} 14 (fun w=>adL w.val.2 k t v e.S.mx Ls w.val.1) (fun w=>Ls.length-w.val.1) ⟨(0,c2),Nat.zero_le _,k1⟩ ?_ ?_
 focus
  refine uj (c:=c2) (k:=k) (t:=t) (v:=v) (was:=e.S.mx) (L:=Ls) (j:=0) ?_ ?_ ?_ ?_ ?_ ?_ ?_ ?_ ?_ ?_ ?_ ?_ ?_ ?_
  ·exact Nat.le_refl 14
  ·exact ah.cY (k:=14) rfl rfl (Nat.le_refl 14) (fun _ _=>rfl)
  ·exact rfl
  ·exact rfl
  ·exact rfl
  ·rw[hpx.1,hpx.2.1];exact rfl
  ·exact congrArg some k2'
  ·rw[hpx.1,hpx.2.2.1];exact rfl
  ·rw[hpx.2.1,hpx.2.2.2];exact rfl
  ·exact congrArg (fun x=>some (AO.sep (aI x))) k3'
  ·exact rfl
  ·exact rfl
  ·exact rfl
  ·exact rfl
 intro⟨(j,c3),hj,hc3⟩;have hj:j<=Ls.length:=hj;obtain⟨Xj,hXj⟩:∃Xj,Xj=(Ls.take j).foldl (fe k e.S.mx t) X1:=⟨_,rfl⟩;have hc3:cg Xj c3:=by rw[hXj];exact hc3
 have hw:IntKind.i64.wrap ((j:Int)+1)=((j+1:Nat):Int):=by rw[al (by omega) (by omega)];omega
 obtain⟨f1,f2,f3,f4,f5⟩:=tA (k:=k) (was:=e.S.mx) (t:=t) (Ls.take j) (X:=X1) (b:=20001) (fun r hr=>(hmem r (List.mem_of_mem_take hr)).1) hB1;rw[<-hXj]at f1 f2 f3 f4 f5;rw[hXk]at f4;have hB3:Bnd Xj 25000:=fun x y hy=>Nat.le_trans (f5 x y hy) (by rw[List.length_take];omega)
 conv=>whnf
 refine ag.dec (fun h=>?_) (fun h=>?_)
 focus
  have h3:j<Ls.length:=Int.ofNat_lt.1 h;have hlt:Ls.length-(j+1)<Ls.length-j:=by omega
  obtain⟨r,hr⟩:∃r,r=Ls[j]:=⟨_,rfl⟩;have sub:bp (ruL Ls) (j*5) 5=some (ruC r):=by rw[hr];exact zN h3 rfl
  obtain⟨m1,m2,m3⟩:=hmem r (by rw[hr];exact List.getElem_mem h3)
  have hnext:(Ls.take (j+1)).foldl (fe k e.S.mx t) X1=fe k e.S.mx t Xj r:=by
   rw[List.take_succ_eq_append_getElem h3,List.foldl_append,<-hXj,<-hr];rfl
  have hsrc:Xj.K r.src=some {e with S:=S',L:=L'}:=by rw[m3];exact f4
  have hdS:(Xj.K r.dst).isSome=true:=by rw[f3,hXs];exact(hl _ _ m2).2
  obtain⟨d,hd⟩:=Option.isSome_iff_exists.1 hdS;have hmx:mxK Xj k=S'.mx:=by unfold mxK;rw[f4]
  obtain⟨p3,C1,C2,g3,a3,u3,q3⟩:=hc3.at1 f4;have lsrc:=hB3 _ _ hsrc;have ldst:=hB3 _ _ hd;have one:¬(0<=e.S.mx/\e.S.mx<mxK Xj k)->fe k e.S.mx t Xj r=cw Xj r t:=fun q=>by unfold fe;rw[if_neg q]
  have two:0<=e.S.mx->e.S.mx<S'.mx->fe k e.S.mx t Xj r=cw (cw Xj r e.S.mx) r t:=fun q q2=>by unfold fe;rw[if_pos ⟨q,by rw[hmx];exact q2⟩]
  conv=>whnf
  refine Idx.mk j rfl h3 ?_
  conv=>whnf
  refine ay sub ?_
  conv=>whnf
  refine ag.dec (fun z3=>?_) (fun z3=>?_)
  focus
   conv=>whnf
   refine Ask.mk _ (aY (m:=c3.m) (g:=gE) (k:=k) bN ow rfl rfl rfl qh g3) ?_
   conv=>whnf
   refine⟨4,aK C1,aK C2,p3,S',L',_,rfl,by decide,by decide,rfl,congrArg (fun x=>some (AO.sep (aI x))) q3,⟨rfl,rfl⟩,?_⟩
   conv=>whnf
   refine ag.dec (fun z4=>?_) (fun z4=>?_)
   focus
    have hs2:(cw Xj r e.S.mx).K r.src=some {e with S:=S',L:=L'}:=by rw[oz (by rw[m3];exact m1)];exact hsrc
    obtain⟨d2,hd2⟩:=Option.isSome_iff_exists.1 (show((cw Xj r e.S.mx).K r.dst).isSome=true by rw[kP];exact hdS);have ld2:=mn hB3 _ _ hd2;rw[two z3 z4]at hnext
    conv=>whnf
    refine⟨Xj,[gR r,.si .i64 e.S.mx],cw Xj r e.S.mx,.tup [],_,c3,rfl,by decide,.cons .same (.cons .same .nil),hc3,sM rfl rfl rfl rfl rfl,⟨r,e.S.mx,_,d,rfl,hsrc,hd,by omega,by omega,rfl,rfl⟩,fun c4 hc4=>?_⟩
    conv=>whnf
    refine⟨cw Xj r e.S.mx,[gR r,.si .i64 t],cw (cw Xj r e.S.mx) r t,.tup [],_,c4,rfl,by decide,.cons .same (.cons .same .nil),hc4,sM rfl rfl rfl rfl rfl,⟨r,t,_,d2,rfl,hs2,hd2,by omega,by omega,rfl,rfl⟩,fun c5 hc5=>?_⟩
    conv=>whnf
    exact⟨⟨(j+1,c5),h3,by rw[hnext];exact hc5⟩,hlt,uj (c:=c5) (k:=k) (t:=t) (v:=v) (was:=e.S.mx) (L:=Ls) (j:=j+1) (Nat.le_refl 14) (ah.cY (k:=14) rfl rfl (Nat.le_refl 14) (fun _ _=>rfl)) rfl rfl (congrArg (AV.si .i64) hw) rfl rfl rfl rfl rfl rfl rfl rfl rfl⟩
   rw[one (fun q=>z4 (by rw[<-hmx];exact q.2))]at hnext
   conv=>whnf
   refine⟨Xj,[gR r,.si .i64 t],cw Xj r t,.tup [],_,c3,rfl,by decide,.cons .same (.cons .same .nil),hc3,sM rfl rfl rfl rfl rfl,⟨r,t,_,d,rfl,hsrc,hd,by omega,by omega,rfl,rfl⟩,fun c5 hc5=>?_⟩
   conv=>whnf
   exact⟨⟨(j+1,c5),h3,by rw[hnext];exact hc5⟩,hlt,uj (c:=c5) (k:=k) (t:=t) (v:=v) (was:=e.S.mx) (L:=Ls) (j:=j+1) (Nat.le_refl 14) (ah.cY (k:=14) rfl rfl (Nat.le_refl 14) (fun _ _=>rfl)) rfl rfl (congrArg (AV.si .i64) hw) rfl rfl rfl rfl rfl rfl rfl rfl rfl⟩
  rw[one (fun q=>z3 q.1)]at hnext
  conv=>whnf
  refine⟨Xj,[gR r,.si .i64 t],cw Xj r t,.tup [],_,c3,rfl,by decide,.cons .same (.cons .same .nil),hc3,sM rfl rfl rfl rfl rfl,⟨r,t,_,d,rfl,hsrc,hd,by omega,by omega,rfl,rfl⟩,fun c5 hc5=>?_⟩
  conv=>whnf
  exact⟨⟨(j+1,c5),h3,by rw[hnext];exact hc5⟩,hlt,uj (c:=c5) (k:=k) (t:=t) (v:=v) (was:=e.S.mx) (L:=Ls) (j:=j+1) (Nat.le_refl 14) (ah.cY (k:=14) rfl rfl (Nat.le_refl 14) (fun _ _=>rfl)) rfl rfl (congrArg (AV.si .i64) hw) rfl rfl rfl rfl rfl rfl rfl rfl rfl⟩
 have ej:j=Ls.length:=by have h:¬(j:Int)<(Ls.length:Int):=h;omega
 have hfin:cg (Ls.foldl (fe k e.S.mx t) X1) c3:=by rw[<-List.take_length (l:=Ls),<-ej,<-hXj];exact hc3
 conv=>whnf
 exact⟨_,c3,.told rfl,hfin,bU rfl rfl rfl rfl rfl⟩
def rA (X:SpV) (cs:List AV) (X':SpV) (u:AV):Prop:=∃k t v p Y,cs=[.ss k,.agg [.si .i64 t,.si .i64 v],.si .i64 p]/\aN v/\Links X/\Bnd X 20000/\o8 X k t v p=Y/\X'=Y.1/\u= .si .i64 Y.2
theorem GN:∀X cs X' u,rA X cs X' u->cs.all iH=true/\iH u=true/\∀c,SpB.ok X c->ax S1 6 32 (.ptr 0 0::cs) (mkH (bH (SpB.O c) 0)) 5 (gj SpB X' u):=fun X cs X' u ⟨k,t,v,p,Y,h1,h2,h3,h4,h5,h6,h7⟩=>by
 subst h1 h6 h7;exact⟨rfl,rfl,fun c hc=>IY X k t v p c hc h2 h3 h4 h5⟩
theorem Pc:ai 32 (ij 5 SpB rA):=wq (an GL 6 _) (by kernel_rfl) SpB rfl (by decide) GN
theorem Pd:ai 32 (dS 5 SpB rA):=gx GL 6 (by kernel_rfl) SpB rfl (by decide) GN
noncomputable def yd (X:SpV):List Tx:=aG ((wE X.K).map Prod.fst)
theorem cg.S2 {X:SpV} {c:SpC} (h:cg X c):((wE X.K).map Prod.fst).Nodup/\∀k,aJ (wE X.K) k=X.K k:=by
 let A:List (Tx×iK):=c.x.A.filterMap fun e=>(X.K e.1).map fun y=>(e.1,y)
 have hk:∀e∈c.x.A,∃y,X.K e.1=some y:=fun e he=>by
  have h1:=dX h.xk (show(e.1,e.2)∈c.x.A from he);rw[h.I]at h1;obtain⟨y,hy,_⟩:=Option.map_eq_some_iff.1 h1;exact⟨y,hy⟩
 have hm:A.map Prod.fst=c.x.A.map Prod.fst:=by
  have:∀B:List (Tx×List Lab),(∀e∈B,∃y,X.K e.1=some y)->(B.filterMap fun e=>(X.K e.1).map fun y=>(e.1,y)).map Prod.fst=B.map Prod.fst:=fun B=>by
   induction B with
   |nil=>intro _;rfl
   |cons e B ih=>
    intro hB;obtain⟨y,hy⟩:=hB e List.mem_cons_self;rw[List.filterMap_cons,hy];simp only[Option.map_some,List.map_cons];rw[ih fun q hq=>hB q (List.mem_cons_of_mem _ hq)]
  exact this _ hk
 have nd:(A.map Prod.fst).Nodup:=by rw[hm];exact h.xk
 refine mj nd fun k=>?_
 cases e:X.K k with
 |none=>
  cases e2:aJ A k with
  |none=>rfl
  |some y=>
   obtain⟨q,_,hq⟩:=List.mem_filterMap.1 (cW e2);obtain⟨z,hz,h2⟩:=Option.map_eq_some_iff.1 hq;injection h2 with h2 h3;rw[h2,e]at hz;cases hz
 |some y=>
  have h1:=h.I k;rw[e]at h1;exact dX nd (List.mem_filterMap.2 ⟨(k,y.lab),cW h1,by rw[e];rfl⟩)
theorem cg.keys {X:SpV} {c:SpC} (h:cg X c):aG (c.x.A.map Prod.fst)=yd X:=wF fun k=>by
 rw[List.mem_map,List.mem_map];constructor
 ·rintro⟨e,he,rfl⟩;have h1:=dX h.xk (show(e.1,e.2)∈c.x.A from he);rw[h.I]at h1;obtain⟨y,hy,_⟩:=Option.map_eq_some_iff.1 h1;exact⟨(e.1,y),cW (by rw[h.S2.2];exact hy),rfl⟩
 ·rintro⟨e,he,rfl⟩;have h1:=dX h.S2.1 (show(e.1,e.2)∈wE X.K from he);rw[h.S2.2]at h1;exact⟨(e.1,e.2.lab),cW (by rw[h.I,h1];rfl),rfl⟩
def UY (X:SpV) (cs:List AV) (v:AV):Prop:=cs=[]/\v= .fr (yd X).length 1 (strs (yd X))
def UZ (X:SpV) (cs:List AV) (v:AV):Prop:=cs=[]/\v= .fr (ED X).length 5 (ruL (ED X))
noncomputable def V5:FuncId->EP:=aw 65 (dI 4 IxB UK) (aw 53 (dI 2 GrB UN) evP)
theorem GO:aW V5:=ae (ae az OZ) Mi
theorem MI:ai 25 (dI 5 SpB UY):=(gx GO 5 (by kernel_rfl) SpB rfl (by decide) fun X cs X' v ⟨h0,h1,h2⟩=>by
 subst h0 h1 h2;refine⟨rfl,rfl,fun c hc=>?_⟩;have hk:=hc.keys;have hx:c.x.A.length<=1000:=Nat.le_trans hc.xl hc.n9
 conv=>whnf
 refine⟨2,c.px,c.x,[],.fr (yd X').length 1 (strs (yd X')),rfl,by decide,by decide,.nil,rfl,rfl,?_,?_⟩
 ·exact⟨rfl,Nat.le_trans hx (by decide),by rw[hk];rfl⟩
 conv=>whnf
 exact⟨_,c,.same,hc,bU rfl rfl rfl rfl rfl⟩).ol
theorem IZ:ai 12 (dI 5 SpB UZ):=(gx GO 5 (by kernel_rfl) SpB rfl (by decide) fun X cs X' v ⟨h0,h1,h2⟩=>by
 subst h0 h1 h2;refine⟨rfl,rfl,fun c hc=>?_⟩;have hk:=hc.all;have hx:c.g.length<=1000:=Nat.le_trans hc.gl hc.n9
 conv=>whnf
 refine⟨3,c.pg,c.g,[],.fr (ED X').length 5 (ruL (ED X')),rfl,by decide,by decide,.nil,rfl,rfl,?_,?_⟩
 ·exact⟨rfl,hx,by rw[hk]⟩
 conv=>whnf
 exact⟨_,c,.same,hc,bU rfl rfl rfl rfl rfl⟩).ol
def I0 (X:SpV) (d:Tx) (r:Option Rl):SpV:={X with R:=fun x=>if x=d then r else X.R x}
def Pe (X:SpV) (s d:Tx):SpV×Int:=match X.R d with
 |none=>(X,5)
 |some r=>if r.src=s then(I0 X d none,0)else(X,5)
def U0 (X:SpV) (cs:List AV) (X':SpV) (v:AV):Prop:=∃s d Y,cs=[.ss s,.ss d]/\Pe X s d=Y/\X'=Y.1/\v= .si .i64 Y.2
noncomputable def V6:FuncId->EP:=aw 109 (dS 2 GrB UQ) evP
theorem Pg:aW V6:=ae az Ms
theorem cg.gr {X:SpV} {c:SpC} (h:cg X c) {g:Gr} {R:Tx->Option Rl} (h1:(g.map Prod.fst).Nodup) (h2:g.length<=X.n) (h3:∀k,aJ g k=R k) (h4:∀e∈g,e.2.dst=e.1) (h5:∀k r,R k=some r->cX r=true):cg {X with R:=R} {c with g:=g}:=
 ⟨h.o,h.xk,h1,h.n9,h.ml,h.xl,h.xw,h2,h.K,h.I,h3,h4,h.ser,h.key,h5⟩
theorem EE:ai 49 (dS 5 SpB U0):=gx Pg 5 (by kernel_rfl) SpB rfl (by decide) fun X cs X' v ⟨s,d,Y,h1,h2,h3,h4⟩=>by
 subst h1 h3 h4;refine⟨rfl,rfl,fun c hc=>?_⟩;have hR:=hc.R d;unfold Pe at h2;cases hd:X.R d with
 |none=>
  rw[hd]at hR h2;have e:pw c.g s d=(c.g,.tup [.agg [.str [],.str [],.int .i64 0,.int .i64 0,.int .i64 0],.si .i64 5]):=by unfold pw;rw[hR]
  subst h2
  conv=>whnf
  refine⟨3,c.pg,c.g,[.ss s,.ss d],_,_,_,rfl,by decide,by decide,.cons .same (.cons .same .nil),rfl,rfl,⟨s,d,_,rfl,e,rfl,rfl⟩,?_⟩
  conv=>whnf
  exact⟨_,c,.told rfl,hc,bU rfl rfl rfl rfl rfl⟩
 |some r=>
  rw[hd]at hR h2;dsimp only at h2;by_cases q:r.src=s
  ·have e:pw c.g s d=(dQ c.g d,.tup [gR r,.si .i64 0]):=by unfold pw;rw[hR];exact if_pos q
   rw[if_pos q]at h2;subst h2
   have ok:cg (I0 X d none) {c with g:=dQ c.g d}:=hc.gr (zX hc.gk d) (Nat.le_trans (rz _ _) hc.gl) (fun x=>by rw[sO hc.gk,hc.R]) (fun e he=>hc.dst e (rv he)) (fun x y hy=>by
    by_cases q:x=d
    ·rw[if_pos q]at hy;cases hy
    ·rw[if_neg q]at hy;exact hc.rul x y hy)
   conv=>whnf
   refine⟨3,c.pg,c.g,[.ss s,.ss d],_,_,_,rfl,by decide,by decide,.cons .same (.cons .same .nil),rfl,rfl,⟨s,d,_,rfl,e,rfl,rfl⟩,?_⟩
   conv=>whnf
   exact⟨_,{c with g:=dQ c.g d},.told rfl,ok,bU rfl rfl rfl rfl rfl⟩
  ·have e:pw c.g s d=(c.g,.tup [.agg [.str [],.str [],.int .i64 0,.int .i64 0,.int .i64 0],.si .i64 5]):=by unfold pw;rw[hR];exact if_neg q
   rw[if_neg q]at h2;subst h2
   conv=>whnf
   refine⟨3,c.pg,c.g,[.ss s,.ss d],_,_,_,rfl,by decide,by decide,.cons .same (.cons .same .nil),rfl,rfl,⟨s,d,_,rfl,e,rfl,rfl⟩,?_⟩
   conv=>whnf
   exact⟨_,c,.told rfl,hc,bU rfl rfl rfl rfl rfl⟩
section
variable {φ:Ph} {H:AH} {n:Nat} {h0 h:Hp} {b m:Nat} {Q Q' R:HP}
theorem HR.shrink (hr:HR φ H n h0 h) (hb:H.get b=some (.sep Q)) (hq:∀z X h,Q.P z X h->∃Y:Nat->Prop,(∀B,Y B->X B)/\Q'.P z Y h):∃ψ,PLe φ ψ/\HR ψ (H.set (some (.sep Q')) aa b) n h0 h:=by
 obtain⟨Y,y1,y2⟩:=hq _ _ _ (hr.sep b _ hb).1;have s4:=(hr.sep b _ hb).2;have hbo:=hr.mT hb
 let ψ:Ph:=⟨φ.f,φ.z,φ.y,fun x=>if x=b then Y else φ.s x⟩
 have sb:ψ.s b=Y:=if_pos rfl
 have so:∀x,x≠b->ψ.s x=φ.s x:=fun x h1=>if_neg h1
 have cs:∀x o,(H.set (some (.sep Q')) aa b).get x=some o->(x=b/\o= .sep Q')∨(x≠b/\H.get x=some o):=fun x o hx=>by
  rcases PM.aj aa H b x o hx with⟨h1,h2⟩|h2
  ·injection h2 with h2;exact .inl ⟨h1,h2.symm⟩
  ·exact .inr h2
 have own:∀x o q,(H.set (some (.sep Q')) aa b).get x=some o->φ x=some q->H.get x=some o:=fun x o q hx hq=>by
  rcases cs x o hx with⟨rfl,_⟩|⟨_,h3⟩
  ·rw[hbo]at hq;cases hq
  ·exact h3
 have sle:SLe φ ψ:=⟨fun _ _ h=>h,fun _ h=>h⟩
 have up:∀{x B},ψ.s x B->φ.s x B:=fun{x B} hB=>by
  by_cases q:x=b
  ·subst q;rw[sb]at hB;exact y1 B hB
  ·rw[so x q]at hB;exact hB
 refine⟨ψ,⟨fun _ _ h=>h,fun _ h=>h,fun _ h=>h⟩,⟨hr.dom,fun x o hx=>?_,fun x y o o' q q' hx hy ho ho' hq hq' e=>hr.inj x y o o' q q' (own x o q hx hq) (own y o' q' hy hq') ho ho' hq hq' e,hr.base,hr.size,fun q hq=>⟨⟨FzR.mono (φ:=φ) (ψ:=ψ) sle.z (hr.frz q hq).1.1,(hr.frz q hq).1.2⟩,fun x o px hx ho hpx=>(hr.frz q hq).2 x o px (own x o px hx hpx) ho hpx⟩,fun x Q2 hx=>?_⟩⟩
 ·rcases cs x o hx with⟨rfl,rfl⟩|⟨_,h4⟩
  ·exact .inl ⟨hbo,rfl⟩
  ·rcases hr.live x o h4 with g|⟨q,ob,g1,g2,g3,g4⟩
   ·exact .inl g
   ·exact .inr ⟨q,ob,g1,g2,g3,g4.cO sle⟩
 ·have was:∀{y Q2},(H.set (some (.sep Q')) aa b).get y=some (.sep Q2)->∃Q3,H.get y=some (.sep Q3):=fun{y Q2} hy=>by
   rcases cs y _ hy with⟨rfl,_⟩|⟨_,h3⟩
   ·exact⟨_,hb⟩
   ·exact⟨_,h3⟩
  refine⟨?_,fun B hB=>?_⟩
  ·rcases cs x _ hx with⟨rfl,h2⟩|⟨h1,h2⟩
   ·injection h2 with h2;subst h2;rw[sb];exact y2
   ·rw[so x h1];exact(hr.sep x Q2 h2).1
  ·obtain⟨Q3,hx3⟩:=was hx;obtain⟨g1,g2,g3,g4⟩:=(hr.sep x Q3 hx3).2 B (up hB)
   exact⟨g1,fun y o' p' hy ho hp=>g2 y o' p' (own y o' p' hy hp) ho hp,g3,fun y Q4 hy hne hs=>by
    obtain⟨Q5,hy5⟩:=was hy;exact g4 y Q5 hy5 hne (up hs)⟩
theorem I1 (A C:List HP) {z:Fz->Prop} {X:Nat->Prop} {h:Hp} (hh:(aI (A++Q::C)).P z X h):∃Y:Nat->Prop,(∀B,Y B->X B)/\(aI (A++C)).P z Y h:=by
 obtain⟨Y,Z,h1,h2,h3,h4⟩:=su A hh;exact⟨Z,fun B hB=>(h1 B).2 (.inr hB),h4⟩
theorem Re.V7 {A C:List HP} {u v:AV} (hb:H.get b=some (.sep (aI (A++Q::C)))) (e:mkT u=mkT v):Re H n u (H.set (some (.sep (aI (A++C)))) aa b) v:=fun φ h0 h w hr hv=>by
 obtain⟨ψ,l,hr2⟩:=hr.shrink hb fun z X h=>I1 A C
 exact⟨ψ,l,hr2,VR.mono l _ _ (Gl (e▸hv.mkT))⟩
theorem HR.MJ (hr:HR φ H n h0 h) (hb9:b<1000000) (hbm:b≠m) {A C:List HP} (hb:H.get b=some (.sep (aI (A++C)))) (hm:H.get m=some (.sep Q)):∃ψ,PLe φ ψ/\HR ψ ((H.set none aa m).set (some (.sep (aI (A++Q::C)))) aa b) n h0 h:=by
 obtain⟨ψ,l,hr2⟩:=hr.join hbm hb hm;have hr3:=hr2.tj (Q':=aI (A++Q::C)) (PM.geq hb9) fun _ _ _=>wa A
 refine⟨ψ,l,hr3.less fun x o hx=>?_⟩;rcases PM.aj aa _ b x o hx with⟨rfl,h2⟩|⟨h1,h2⟩
 ·rw[PM.geq hb9];exact h2
 ·exact PM.gne hb9 h1 (PM.gne hb9 h1 h2)
theorem Re.MJ {A C:List HP} {u v:AV} (hb9:b<1000000) (hbm:b≠m) (hb:H.get b=some (.sep (aI (A++C)))) (hm:H.get m=some (.sep Q)) (e:mkT u=mkT v):Re H n u ((H.set none aa m).set (some (.sep (aI (A++Q::C)))) aa b) v:=fun φ h0 h w hr hv=>by
 obtain⟨ψ,l,hr2⟩:=hr.MJ hb9 hbm hb hm;exact⟨ψ,l,hr2,VR.mono l _ _ (Gl (e▸hv.mkT))⟩
end
def oA (X:SpV) (k:Tx):SpV:=if(X.K k).isSome=true then{X with K:=fun x=>if x=k then none else X.K x,R:=fun d=>match X.R d with
 |some r=>if wC k r=true then none else some r
 |none=>none}else X
def S3 (X:SpV) (cs:List AV) (X':SpV) (v:AV):Prop:=∃k,cs=[.ss k]/\X'=oA X k/\v= .sb (X.K k).isSome
noncomputable def S4:FuncId->EP:=aw 68 (dS 4 IxB OT) (aw 69 (dS 2 GrB UO) evP)
theorem Pj:aW S4:=ae (ae az Mp) Mg
theorem cg.drop {X:SpV} {c:SpC} (h:cg X c) {k:Tx} (hk:(X.K k).isSome=true):cg (oA X k) {c with m:=c.m.del k,x:=⟨dQ c.x.A k,c.x.w⟩,g:=tw c.g k}:=by
 obtain⟨g1,g2,g3⟩:=IX h.gk h.dst k;unfold oA;rw[if_pos hk];refine⟨h.o.del k,zX h.xk k,g1,h.n9,?_,Nat.le_trans (rz _ _) h.xl,h.xw,Nat.le_trans g2 h.gl,fun x=>?_,fun x=>?_,fun d=>?_,fun e he=>h.dst e (sL he),fun x e he=>?_,fun x e he=>?_,fun d r hr=>?_⟩
 ·rw[wu];exact Nat.le_trans (rz _ _) h.ml
 ·rw[Cv h.o];by_cases q:x=k
  ·simp[q]
  ·simp[q,h.K x]
 ·rw[sO h.xk];by_cases q:x=k
  ·simp[q]
  ·simp[q,h.I x]
 ·rw[g3,h.R]<;>rfl
 ·dsimp only at he;by_cases q:x=k
  ·rw[if_pos q]at he;cases he
  ·rw[if_neg q]at he;exact h.ser x e he
 ·dsimp only at he;by_cases q:x=k
  ·rw[if_pos q]at he;cases he
  ·rw[if_neg q]at he;exact h.key x e he
 ·dsimp only at hr;split at hr
  ·rename_i r2 e2;split at hr
   ·cases hr
   ·injection hr with hr;subst hr;exact h.rul d r2 e2
  ·cases hr
theorem cg.V8 {X:SpV} {c:SpC} (h:cg X c) {k:Tx} {E:SE} {A1 A2:List (Tx×SE)} (ha:c.m.A=A1++(k,E)::A2):(c.m.del k).A=A1++A2:=by
 have hn:∀e∈A1,k≠e.1:=fun e he q=>by
  have:=h.o.key;rw[ha,List.map_append,List.map_cons,List.nodup_append]at this;exact this.2.2 e.1 (List.mem_map.2 ⟨e,he,rfl⟩) k List.mem_cons_self q.symm
 have hf:∀(A1:List (Tx×SE)) (i:Nat),(∀e∈A1,k≠e.1)->fP k (A1++(k,E)::A2) i=some (i+A1.length,E):=fun A1=>by
  induction A1 with
  |nil=>intro i _;simp[fP]
  |cons e A1 ih=>
   intro i he;rw[List.cons_append];unfold fP;rw[if_neg (he e List.mem_cons_self),ih (i+1) fun x hx=>he x (List.mem_cons_of_mem _ hx)];simp only[List.length_cons];congr 2;omega
 rw[wu,ha];unfold dQ;rw[hf A1 0 hn];dsimp only;rw[Nat.zero_add,List.eraseIdx_append_of_length_le (Nat.le_refl _),Nat.sub_self];rfl
theorem EF (X:SpV) (k:Tx) (c:SpC) (hc:cg X c):ax S4 5 27 [.ptr 0 0,.ss k] (mkH (bH (spO c) 0)) 5 (gj SpB (oA X k) (.sb (X.K k).isSome)):=by
 have hh:=hc.has k;have hw:c.x.w<900000:=by have:=hc.xw;have:=hc.n9;omega
 have hg:c.g.length<=1000:=Nat.le_trans hc.gl hc.n9;cases hK:X.K k with
 |none=>
  rw[hK]at hh;have e:oA X k=X:=by unfold oA;rw[hK];rfl
  have e0:aJ c.x.A k=none:=by cases q:aJ c.x.A k with
   |none=>rfl
   |some y=>rw[q]at hh;cases hh
  have e2:(⟨dQ c.x.A k,c.x.w⟩:Ix)=c.x:=by rw[sH e0]
  rw[e]
  conv=>whnf
  refine⟨2,c.px,c.x,[.ss k],c.x,.sb false,_,rfl,by decide,by decide,.cons .same .nil,rfl,rfl,⟨k,rfl,hw,e2.symm,congrArg AV.sb hh.symm⟩,?_⟩
  conv=>whnf
  refine ag.nsb (fun z=>?_) (fun z=>?_)
  focus
   conv=>whnf
   exact⟨_,c,.told rfl,hc,bU rfl rfl rfl rfl rfl⟩
  cases z
 |some y=>
  rw[hK]at hh;obtain⟨p1,A1,A2,g1,a1,u1,q1⟩:=hc.at1 hK;have ok:=hc.drop (k:=k) (by rw[hK];rfl);have hst:aK (c.m.del k).A=aK A1++aK A2:=by rw[hc.V8 a1];unfold aK;rw[List.map_append]
  conv=>whnf
  refine⟨2,c.px,c.x,[.ss k],⟨dQ c.x.A k,c.x.w⟩,.sb true,_,rfl,by decide,by decide,.cons .same .nil,rfl,rfl,⟨k,rfl,hw,rfl,congrArg AV.sb hh.symm⟩,?_⟩
  conv=>whnf
  refine ag.nsb (fun z=>?_) (fun z=>?_)
  focus
   cases z
  conv=>whnf
  refine Ask.mk _ (sG (m:=c.m) (g:=gE) (k:=k) bN ow rfl rfl rfl) ?_
  conv=>whnf
  refine⟨3,c.pg,c.g,[.ss k],tw c.g k,_,_,rfl,by decide,by decide,.cons .same .nil,rfl,rfl,⟨k,rfl,hg,rfl,rfl⟩,?_⟩
  conv=>whnf
  exact⟨_,{c with m:=c.m.del k,x:=⟨dQ c.x.A k,c.x.w⟩,g:=tw c.g k},.V7 (b:=4) (A:=aK A1) (C:=aK A2) (congrArg (fun x=>some (AO.sep (aI x))) q1) rfl,ok,bU rfl rfl rfl rfl (congrArg (fun x=>some (AO.sep (aI x))) hst.symm)⟩
theorem V9:∀X cs X' v,S3 X cs X' v->cs.all iH=true/\iH v=true/\∀c,SpB.ok X c->ax S4 5 27 (.ptr 0 0::cs) (mkH (bH (SpB.O c) 0)) 5 (gj SpB X' v):=fun X cs X' v ⟨k,h1,h2,h3⟩=>by
 subst h1 h2 h3;exact⟨rfl,rfl,fun c hc=>EF X k c hc⟩
theorem MK:ai 27 (dS 5 SpB S3):=gx Pj 5 (by kernel_rfl) SpB rfl (by decide) V9
def crK (X:SpV) (k:Tx) (y:iK):SpV:={X with K:=fun x=>if x=k then some y else X.K x,n:=X.n+1}
noncomputable def crF (X:SpV) (k:Tx) (z ret pol:Int) (l:List Lab):SpV×Int:=match oZ z ret pol with
 |none=>(X,1)
 |some S=>if(im k&&dO l)=true then(if(X.K k).isSome=true then(X,6)else(crK X k ⟨S,[],z,dJ l⟩,0))else(X,1)
def wX (z ret pol:Int) (l:List Lab):AV:= .agg [.si .i64 z,.si .i64 ret,.si .i64 pol,gL l]
def S5 (X:SpV) (cs:List AV) (X':SpV) (v:AV):Prop:=∃k z ret pol l Y,cs=[.ss k,wX z ret pol l]/\l.length<=1000/\X.n<1000/\crF X k z ret pol l=Y/\X'=Y.1/\v= .si .i64 Y.2
noncomputable def S6:FuncId->EP:=aV 46 [] (aw 104 zE (aw 84 (dI 4 IxB IM) (aw 107 (dS 4 IxB UJ) (aw 105 (aZ Cr) (aw 106 (aZ Sz) (aw 108 My evP))))))
theorem Pm:aW S6:=aq (ae (ae (ae (ae (ae (ae az SV) UF) Gs) OW) rq) Sm) (by kernel_rfl) (by kernel_rfl)
theorem I2 {m:MpC Tx SE} {k:Tx} (h:aJ m.A k=none) (E:SE):(m.put k E).A=m.A++ [(k,E)]:=by
 unfold aJ at h;rw[Option.map_eq_none_iff]at h;unfold MpC.put;rw[h]
theorem Pn {V:Type} {A:List (Tx×V)} {k:Tx} {q:Bool} (h:(aJ A k).isSome=q) (hq:q=false):aJ A k=none:=by
 cases e:aJ A k with
 |none=>rfl
 |some y=>rw[e,hq]at h;cases h
theorem cg.create {X:SpV} {c:SpC} (h:cg X c) {k:Tx} (hk:X.K k=none) (hn:X.n<1000) {p:Nat×Nat} {S:Sr} {z:Int} {l:List Lab} (ho:jQ S []) (hkf:im k=true) (hrf:dO l=true):cg (crK X k ⟨S,[],z,dJ l⟩) {c with m:=c.m.put k ⟨p,S,[],z⟩,x:=⟨je (dQ c.x.A k) k (dJ l),c.x.w+8⟩}/\aK (c.m.put k ⟨p,S,[],z⟩).A=aK c.m.A++ [cD p S []]:=by
 have e0:aJ c.x.A k=none:=Pn (h.has k) (by rw[hk];rfl);have eA:=I2 (h.no1 hk) ⟨p,S,[],z⟩;have ed:dQ c.x.A k=c.x.A:=sH e0;have hml:=h.ml;have hxl:=h.xl;have hxw:=h.xw;have hgl:=h.gl;refine⟨⟨h.o.put k _,?_,h.gk,?_,?_,?_,?_,?_,fun x=>?_,fun x=>?_,h.R,h.dst,fun x y hy=>?_,fun x y hy=>?_,h.rul⟩,?_⟩
 ·show((je (dQ c.x.A k) k (dJ l)).map Prod.fst).Nodup;rw[ed];exact zY h.xk _ _
 ·show X.n+1<=1000;omega
 ·show(c.m.put k _).A.length<=X.n+1;rw[eA,List.length_append];show _+1<=_;omega
 ·show(je (dQ c.x.A k) k (dJ l)).length<=X.n+1;rw[ed];have:=CH c.x.A k (dJ l);omega
 ·show c.x.w+8<=8*(X.n+1);omega
 ·show c.g.length<=X.n+1;omega
 ·show(aJ (c.m.put k _).A x).map Mt=((crK X k ⟨S,[],z,dJ l⟩).K x).map Mu;rw[wj h.o];by_cases q:x=k
  ·subst q;simp[crK,Mt,Mu]
  ·simp[crK,q,h.K x]
 ·show aJ (je (dQ c.x.A k) k (dJ l)) x=((crK X k ⟨S,[],z,dJ l⟩).K x).map iK.lab;rw[ed,sP h.xk];by_cases q:x=k
  ·subst q;simp[crK]
  ·simp[crK,q,h.I x]
 ·simp only[crK]at hy;by_cases q:x=k
  ·rw[if_pos q]at hy;injection hy with hy;subst hy;exact ho
  ·rw[if_neg q]at hy;exact h.ser x y hy
 ·simp only[crK]at hy;by_cases q:x=k
  ·subst q;exact hkf
  ·rw[if_neg q]at hy;exact h.key x y hy
 ·rw[eA];unfold aK;rw[List.map_append];rfl
theorem zZ (X:SpV) (k:Tx) (z ret pol:Int) (l:List Lab) (c:SpC) (hc:cg X c) (hl:l.length<=1000) (hn:X.n<1000) {Y:SpV×Int} (hY:crF X k z ret pol l=Y):ax S6 5 46 [.ptr 0 0,.ss k,wX z ret pol l] (mkH (bH (spO c) 0)) 5 (gj SpB Y.1 (.si .i64 Y.2)):=by
 obtain⟨Y1,Y2⟩:=Y;have hh:=hc.has k;have hw:c.x.w<800000:=by have:=hc.xw;have:=hc.n9;omega
 unfold crF at hY
 have no:∀u H n,(X,(1:Int))=(Y1,Y2)->u=AV.int .i64 1->H.get 0=some (.cells [.map 1,aQ c.px,aQ c.pg] true)->H.get 1=some (c.m.O kT gE)->H.get 2=some (.sep (IxB.Q c.x c.px))->H.get 3=some (.sep (GrB.Q c.g c.pg))->H.get 4=some (.sep (aI (aK c.m.A)))->gj SpB Y1 (.si .i64 Y2) u H n:=fun u H n e1 e2 h0 h1 h2 h3 h4=>by
  injection e1 with e3 e4;subst e2 e3 e4;exact⟨_,c,.told rfl,hc,bU h0 h1 h2 h3 h4⟩
 cases hS:oZ z ret pol with
 |none=>
  rw[hS]at hY
  conv=>whnf
  refine⟨z,ret,pol,none,rfl,rfl,rfl,⟨by decide,rfl,rfl,rfl,rfl⟩,hS,?_⟩
  conv=>whnf
  exact no _ _ _ hY rfl rfl rfl rfl rfl rfl
 |some S=>
  rw[hS]at hY;dsimp only at hY
  conv=>whnf
  refine⟨z,ret,pol,some S,rfl,rfl,rfl,⟨by decide,rfl,rfl,rfl,rfl⟩,hS,fun p ho=>?_⟩
  conv=>whnf
  refine⟨_,_,_,.cons .same .nil,⟨k,rfl,rfl⟩,?_⟩
  conv=>whnf
  refine ag.nsb (fun z1=>?_) (fun z1=>?_)
  focus
   rw[if_neg (by rw[z1];simp)]at hY
   conv=>whnf
   exact no _ _ _ hY rfl rfl rfl rfl rfl rfl
  conv=>whnf
  refine⟨_,_,_,.cons .same .nil,⟨l,rfl,hl,rfl⟩,?_⟩
  conv=>whnf
  refine ag.nsb (fun z2=>?_) (fun z2=>?_)
  focus
   rw[if_neg (by rw[z2];simp)]at hY
   conv=>whnf
   exact no _ _ _ hY rfl rfl rfl rfl rfl rfl
  rw[if_pos (by rw[z1,z2];rfl)]at hY
  conv=>whnf
  refine⟨2,c.px,c.x,[.ss k],.sb (X.K k).isSome,rfl,by decide,by decide,.cons .same .nil,rfl,rfl,⟨k,rfl,congrArg AV.sb hh.symm⟩,?_⟩
  conv=>whnf
  refine ag.sb (fun z3=>?_) (fun z3=>?_)
  focus
   rw[if_pos z3]at hY;injection hY with e1 e2;subst e1 e2
   conv=>whnf
   exact⟨_,c,.told rfl,hc,bU rfl rfl rfl rfl rfl⟩
  rw[if_neg (by rw[z3];simp)]at hY;injection hY with e1 e2;subst e1 e2
  have hK:X.K k=none:=by cases q:X.K k with
   |none=>rfl
   |some y=>rw[q]at z3;cases z3
  obtain⟨ok,hst⟩:=hc.create (p:=p) (z:=z) hK hn ho z1 z2;have hset:sI c.x k l=(⟨je (dQ c.x.A k) k (dJ l),c.x.w+8⟩,.si .i64 0):=by unfold sI;rw[if_pos (by rw[z1,z2];rfl)]
  conv=>whnf
  refine Ask.mk _ (wo (m:=c.m) (g:=gE) (v:=⟨p,S,[],z⟩) (k:=k) bN ow rfl rfl rfl rfl) ?_
  conv=>whnf
  refine⟨2,c.px,c.x,[.ss k,gL l],_,_,_,rfl,by decide,by decide,.cons .same (.cons .same .nil),rfl,rfl,⟨k,l,_,rfl,hl,hw,hset,rfl,rfl,rfl⟩,?_⟩
  conv=>whnf
  exact⟨_,{c with m:=c.m.put k ⟨p,S,[],z⟩,x:=⟨je (dQ c.x.A k) k (dJ l),c.x.w+8⟩},.MJ (b:=4) (m:=6) (A:=aK c.m.A) (C:=[]) (by decide) (by decide) (congrArg (fun x=>some (AO.sep (aI x))) (List.append_nil _).symm) rfl rfl,ok,bU rfl rfl rfl rfl (congrArg (fun x=>some (AO.sep (aI x))) hst.symm)⟩
theorem Wa:∀X cs X' v,S5 X cs X' v->cs.all iH=true/\iH v=true/\∀c,SpB.ok X c->ax S6 5 46 (.ptr 0 0::cs) (mkH (bH (SpB.O c) 0)) 5 (gj SpB X' v):=fun X cs X' v ⟨k,z,ret,pol,l,Y,h1,h2,h3,h4,h5,h6⟩=>by
 subst h1 h5 h6;exact⟨rfl,rfl,fun c hc=>zZ X k z ret pol l c hc h2 h3 h4⟩
theorem EG:ai 46 (dS 5 SpB S5):=gx Pm 5 (by kernel_rfl) SpB rfl (by decide) Wa
noncomputable def rlF (X:SpV) (r:Rl):SpV×Int:=
 if cX r=true then(if(X.K r.src).isSome=true/\(X.K r.dst).isSome=true then(if(X.R r.dst).isSome=true then(X,6)else if(X.R r.src).isSome=true∨0<(ofX X r.dst).length then(X,10)else({I0 X r.dst (some r)with n:=X.n+1},0))else(X,5))else(X,1)
def S7 (X:SpV) (cs:List AV) (X':SpV) (v:AV):Prop:=∃r Y,cs=[gR r]/\X.n<1000/\rlF X r=Y/\X'=Y.1/\v= .si .i64 Y.2
noncomputable def S8:FuncId->EP:=aV 38 [] (aw 89 (aZ SH) (cT 84 (dI 4 IxB IM) (aw 90 (dS 2 GrB QE) evP)))
theorem Po:aW S8:=aq (ae (a8 (ae az O1) rq (Eo _ _ _)) UM) (by kernel_rfl) (by kernel_rfl)
theorem S9 {X:SpV} {c:SpC} (h:cg X c) {r:Rl} (hr:cX r=true):zQ c.g r=(if(X.R r.dst).isSome=true then(c.g,.si .i64 6)else if(X.R r.src).isSome=true∨0<(ofX X r.dst).length then(c.g,.si .i64 10)else(je c.g r.dst r,.si .i64 0)):=by
 unfold zQ;rw[if_neg (by rw[hr];simp),h.R,h.R,h.of]
theorem z9 (X:SpV) (r:Rl) (c:SpC) (hc:cg X c) (hn:X.n<1000) {Y:SpV×Int} (hY:rlF X r=Y):ax S8 5 38 [.ptr 0 0,gR r] (mkH (bH (spO c) 0)) 5 (gj SpB Y.1 (.si .i64 Y.2)):=by
 obtain⟨Y1,Y2⟩:=Y;have h1:=hc.has r.src;have h2:=hc.has r.dst;have hg:c.g.length<=1000:=Nat.le_trans hc.gl hc.n9;unfold rlF at hY
 conv=>whnf
 refine⟨_,_,_,.cons .same .nil,⟨r,rfl,rfl⟩,?_⟩
 conv=>whnf
 refine ag.nsb (fun z1=>?_) (fun z1=>?_)
 focus
  rw[if_neg (by rw[z1];simp)]at hY;injection hY with e1 e2;subst e1 e2
  conv=>whnf
  exact⟨_,c,.told rfl,hc,bU rfl rfl rfl rfl rfl⟩
 rw[if_pos z1]at hY
 conv=>whnf
 refine⟨2,c.px,c.x,[.ss r.src],.sb (X.K r.src).isSome,rfl,by decide,by decide,.cons .same .nil,rfl,rfl,⟨r.src,rfl,congrArg AV.sb h1.symm⟩,?_⟩
 conv=>whnf
 refine ag.nsb (fun z2=>?_) (fun z2=>?_)
 focus
  rw[if_neg (fun q=>by rw[z2]at q;cases q.1)]at hY;injection hY with e1 e2;subst e1 e2
  conv=>whnf
  exact⟨_,c,.told rfl,hc,bU rfl rfl rfl rfl rfl⟩
 conv=>whnf
 refine⟨2,c.px,c.x,[.ss r.dst],.sb (X.K r.dst).isSome,rfl,by decide,by decide,.cons .same .nil,rfl,rfl,⟨r.dst,rfl,congrArg AV.sb h2.symm⟩,?_⟩
 conv=>whnf
 refine ag.nsb (fun z3=>?_) (fun z3=>?_)
 focus
  rw[if_neg (fun q=>by rw[z3]at q;cases q.2)]at hY;injection hY with e1 e2;subst e1 e2
  conv=>whnf
  exact⟨_,c,.told rfl,hc,bU rfl rfl rfl rfl rfl⟩
 rw[if_pos ⟨z2,z3⟩]at hY;have hA:=S9 hc z1
 conv=>whnf
 by_cases q1:(X.R r.dst).isSome=true
 ·rw[if_pos q1]at hY hA;injection hY with e1 e2;subst e1 e2;refine⟨3,c.pg,c.g,[gR r],_,_,_,rfl,by decide,by decide,.cons .same .nil,rfl,rfl,⟨r,_,rfl,hg,hA,rfl,rfl,rfl⟩,?_⟩
  conv=>whnf
  exact⟨_,c,.told rfl,hc,bU rfl rfl rfl rfl rfl⟩
 ·rw[if_neg q1]at hY hA;by_cases q2:(X.R r.src).isSome=true∨0<(ofX X r.dst).length
  ·rw[if_pos q2]at hY hA;injection hY with e1 e2;subst e1 e2;refine⟨3,c.pg,c.g,[gR r],_,_,_,rfl,by decide,by decide,.cons .same .nil,rfl,rfl,⟨r,_,rfl,hg,hA,rfl,rfl,rfl⟩,?_⟩
   conv=>whnf
   exact⟨_,c,.told rfl,hc,bU rfl rfl rfl rfl rfl⟩
  ·rw[if_neg q2]at hY hA;injection hY with e1 e2;subst e1 e2
   have ok:cg {I0 X r.dst (some r)with n:=X.n+1} {c with g:=je c.g r.dst r}:=by
    have hml:=hc.ml;have hxl:=hc.xl;have hxw:=hc.xw;have hgl:=hc.gl;have hpl:=CH c.g r.dst r;refine⟨hc.o,hc.xk,zY hc.gk _ _,?_,?_,?_,?_,?_,hc.K,hc.I,fun d=>?_,fun e he=>?_,hc.ser,hc.key,fun d y hy=>?_⟩
    ·show X.n+1<=1000;omega
    ·show c.m.A.length<=X.n+1;omega
    ·show c.x.A.length<=X.n+1;omega
    ·show c.x.w<=8*(X.n+1);omega
    ·show(je c.g r.dst r).length<=X.n+1;omega
    ·show aJ (je c.g r.dst r) d=if d=r.dst then some r else X.R d
     rw[sP hc.gk,hc.R]
    ·have:=dX (zY hc.gk r.dst r) (show(e.1,e.2)∈je c.g r.dst r from he);rw[sP hc.gk]at this;split at this
     ·rename_i q;injection this with this;rw[q,<-this]
     ·exact hc.dst e (cW this)
    ·have hy:(if d=r.dst then some r else X.R d)=some y:=hy;split at hy
     ·injection hy with hy;subst hy;exact z1
     ·exact hc.rul d y hy
   refine⟨3,c.pg,c.g,[gR r],_,_,_,rfl,by decide,by decide,.cons .same .nil,rfl,rfl,⟨r,_,rfl,hg,hA,rfl,rfl,rfl⟩,?_⟩
   conv=>whnf
   exact⟨_,{c with g:=je c.g r.dst r},.told rfl,ok,bU rfl rfl rfl rfl rfl⟩
theorem Wb:∀X cs X' v,S7 X cs X' v->cs.all iH=true/\iH v=true/\∀c,SpB.ok X c->ax S8 5 38 (.ptr 0 0::cs) (mkH (bH (SpB.O c) 0)) 5 (gj SpB X' v):=fun X cs X' v ⟨r,Y,h1,h2,h3,h4,h5⟩=>by
 subst h1 h4 h5;exact⟨rfl,rfl,fun c hc=>z9 X r c hc h2 h3⟩
theorem EI:ai 38 (ij 5 SpB S7):=wq (an Po 5 _) (by kernel_rfl) SpB rfl (by decide) Wb
def tB (B:Smp->List AV->Smp->Prop) (args:List AV) (H:AH) (n:Nat) (κ:PK):Prop:=match args with
 |x::ar=>∃(b:Nat) (A C:List HP) (p:Nat×Nat) (S:Sr) (L O:Smp),x=aQ p/\b<n/\n<700000/\ie H 5 n=true/\H.get b=some (.sep (aI (A++cD p S L::C)))/\B L ar O/\κ (.fr O.length 2 (smp O)) H (n+5)
 |_=>False
theorem EJ (B:Smp->List AV->Smp->Prop):iC (tB B):=fun args H n κ hs=>by
 unfold tB at*;split at hs
 ·obtain⟨b,A,C,p,S,L,O,h1,h2,h3,h4,h5,h6,h7⟩:=hs;exact⟨_,_,_,h7,fun _ _ h=>h,Nat.le_add_right _ _,fun κ' h=>⟨b,A,C,p,S,L,O,h1,h2,h3,h4,h5,h6,h⟩⟩
 ·exact hs.elim
theorem ai.qf {f:FuncId} {B:Smp->List AV->Smp->Prop} (h:ai f (wD B)):ai f (tB B):=fun args H n κ hs φ h0 hp vs K hr hargs hk=>by
 unfold tB at hs;split at hs
 ·rename_i x ar;obtain⟨b,A,C,p,S,L,O,h1,h2,h3,h4,h5,h6,h7⟩:=hs;refine h (x::ar) H n (fun u H2 n2=>u= .rw (n+4) 0 O.length 2 0/\H2=H.set (some (.cells (smp O) true)) aa (n+4)/\n2=n+5) ⟨b,A,C,p,S,L,O,h1,h2,h3,h4,h5,h6,rfl,rfl,rfl⟩ φ h0 hp vs K hr hargs fun ψ u H2 n2 w g hle hg hu ⟨e1,e2,e3⟩=>?_
  subst e1 e2 e3;obtain⟨χ,l,hg2,hu2⟩:=Re.row (x:=0) (z:=true) (H:=H.set (some (.cells (smp O) true)) aa (n+4)) (b:=n+4) (m:=O.length) (k:=2) (l:=smp O) (s:=smp O) (PM.geq (by omega)) (b6 O) (bf O) rfl (by decide) ψ h0 g w hg hu
  refine hk χ _ H _ w g (hle.trans l) (hg2.less fun y o hy=>?_) hu2 h7;have q:y≠n+4:=fun e=>by subst e;rw[dY (k:=4) h4 (by decide)]at hy;cases hy
  exact PM.gne (by omega) q (PM.gne (by omega) q hy)
 ·exact hs.elim
theorem ML:ai 21 (tB Eh):=QG.qf
def dK (r:Rl) (s:Int×SpV) (x:Int×Int):Int×SpV:=if s.1<bB r x.1 then(bB r x.1,cw s.2 r (bB r x.1))else s
def sR (r:Rl) (X:SpV) (L:Smp):Int×SpV:=L.foldl (dK r) (-1,X)
theorem I3 {r:Rl} {X:SpV} {L:Smp} {i:Nat} (h:i<L.length):sR r X (L.take (i+1))=dK r (sR r X (L.take i)) L[i]:=by
 unfold sR;rw[List.take_succ_eq_append_getElem h,List.foldl_append];rfl
theorem m5 {r:Rl} {k:Tx}:∀(L:Smp) {s:Int×SpV} {b:Nat},Bnd s.2 b→-1<=s.1->(L.foldl (dK r) s).2.R=s.2.R/\(L.foldl (dK r) s).2.n=s.2.n/\(∀x,((L.foldl (dK r) s).2.K x).isSome=(s.2.K x).isSome)/\(∀x,x≠r.dst->(L.foldl (dK r) s).2.K x=s.2.K x)/\Bnd (L.foldl (dK r) s).2 (b+L.length)∧-1<=(L.foldl (dK r) s).1
 | [],s,b,hb,h1=>⟨rfl,rfl,fun _=>rfl,fun _ _=>rfl,hb,h1⟩
 |x::L,s,b,hb,h1=>by
  rw[List.foldl_cons];have hB:=jm (t:=x.1) (s:=r.size) (a:=r.align);by_cases q:s.1<bB r x.1
  ·have e:dK r s x=(bB r x.1,cw s.2 r (bB r x.1)):=if_pos q;rw[e];obtain⟨a1,a2,a3,a4,a5,a6⟩:=m5 (k:=k) L (s:=(bB r x.1,cw s.2 r (bB r x.1))) (mn hb) (by show-1<=bB r x.1;unfold bB;omega);refine⟨a1.trans lr.1,a2.trans lr.2,fun y=>(a3 y).trans kP,fun y hy=>(a4 y hy).trans (oz hy),?_,a6⟩;rw[List.length_cons,show b+(L.length+1)=b+1+L.length by omega];exact a5
  ·have e:dK r s x=s:=if_neg q;rw[e];obtain⟨a1,a2,a3,a4,a5,a6⟩:=m5 (k:=k) L hb h1;exact⟨a1,a2,a3,a4,fun y z hz=>by have:=a5 y z hz;rw[List.length_cons];omega,a6⟩
def MM (X:SpV) (cs:List AV) (X':SpV) (v:AV):Prop:=∃r L,cs=[gR r,.fr L.length 2 (smp L)]/\L.length<=5000/\r.src≠r.dst/\(X.K r.src).isSome=true/\(X.K r.dst).isSome=true/\Bnd X 25000/\X'=(sR r X L).2/\v= .tup []
noncomputable def U1:FuncId->EP:=aV 102 [] (aw 75 (ij 5 SpB SY) (cT 54 (ve iX) evP))
theorem Pp:aW U1:=aq (ae (a8 az yS Bf) MD) (by kernel_rfl) (by kernel_rfl)
noncomputable def alL (c:SpC) (r:Rl) (L:Smp) (i:Nat) (last:Int):AE×AH:=(mkE [(0,.ptr 0 (0)),(4,.ptr 5 (0)),(6,.si .i64 (last)),(10,.fr L.length 2 (smp L)),(11,.si .i64 ((L.length:Int))),(12,.si .i64 ((i:Int)))],mkH [(0,.cells [.map 1,aQ c.px,aQ c.pg] true),(1,c.m.O kT gE),(2,.sep (IxB.Q c.x c.px)),(3,.sep (GrB.Q c.g c.pg)),(4,.sep (aI (aK c.m.A))),(5,.cells (ruC r) true)])
theorem Aa {c:SpC} {r:Rl} {L:Smp} {i:Nat} {last:Int} {p n:Nat} {σ:AE} {H:AH} (hp:p<=6) (e0:ak (pa 0) σ= .ptr 0 (0)) (e4:ak (pa 4) σ= .ptr 5 (0)) (e6:mk (ak (pa 6) σ)= .si .i64 (last)) (e10:ak (pa 10) σ= .fr L.length 2 (smp L)) (e11:mk (ak (pa 11) σ)= .si .i64 ((L.length:Int))) (e12:mk (ak (pa 12) σ)= .si .i64 ((i:Int))) (h0:H.get 0=some (.cells [.map 1,aQ c.px,aQ c.pg] true)) (h1:H.get 1=some (c.m.O kT gE)) (h2:H.get 2=some (.sep (IxB.Q c.x c.px))) (h3:H.get 3=some (.sep (GrB.Q c.g c.pg))) (h4:H.get 4=some (.sep (aI (aK c.m.A)))) (h5:H.get 5=some (.cells (ruC r) true)):Cov p σ H n ((alL c r L i last).1,(alL c r L i last).2,6):=
 Cov.ofA hp ⟨.ptr (by decide) e0,.ptr (by decide) e4,.int e6,ah.frE e10,.int e11,.int e12,trivial⟩ ⟨.inl ⟨_,h0,au.refl rfl⟩,.inl ⟨_,h1,au.refl (bg dw tz)⟩,.inl ⟨_,h2,au.sep _⟩,.inl ⟨_,h3,au.sep _⟩,.inl ⟨_,h4,au.sep _⟩,.inl ⟨_,h5,au.refl rfl⟩,trivial⟩ rfl
theorem I4 (X:SpV) (r:Rl) (L:Smp) (c:SpC) (hc:cg X c) (hl:L.length<=5000) (hne:r.src≠r.dst) (hs:(X.K r.src).isSome=true) (hd:(X.K r.dst).isSome=true) (hb:Bnd X 25000):ax U1 6 102 [.ptr 0 0,gR r,.fr L.length 2 (smp L)] (mkH (bH (spO c) 0)) 5 (gj SpB (sR r X L).2 (.tup [])):=by
 conv=>whnf
 refine aS.mk {w:Nat×SpC×Int//w.1<=L.length/\cg (sR r X (L.take w.1)).2 w.2.1/\w.2.2=(sR r X (L.take w.1)).1} 6 (fun w=>alL w.val.2.1 r L w.val.1 w.val.2.2) (fun w=>L.length-w.val.1) ⟨(0,c,-1),Nat.zero_le _,hc,rfl⟩ ?_ ?_
 focus
  exact Aa (c:=c) (r:=r) (L:=L) (i:=0) (last:= -1) (by decide) rfl rfl rfl rfl rfl rfl rfl rfl rfl rfl rfl rfl
 intro⟨(i,c1,lst),hi,hc1,hlst⟩;have hi:i<=L.length:=hi;obtain⟨Z,hZ⟩:∃Z,Z=sR r X (L.take i):=⟨_,rfl⟩;have hc1:cg Z.2 c1:=by rw[hZ];exact hc1
 have hlst:lst=Z.1:=by rw[hZ];exact hlst
 obtain⟨f1,f2,f3,f4,f5,f6⟩:=m5 (r:=r) (k:=r.src) (L.take i) (s:=(-1,X)) hb (Int.le_refl _);have hZ2:(L.take i).foldl (dK r) (-1,X)=Z:=by rw[hZ];rfl
 rw[hZ2]at f1 f2 f3 f4 f5 f6;have hB:Bnd Z.2 30000:=fun y z hz=>Nat.le_trans (f5 y z hz) (by rw[List.length_take];omega)
 have hw:IntKind.i64.wrap ((i:Int)+1)=((i+1:Nat):Int):=by rw[al (by omega) (by omega)];omega
 conv=>whnf
 refine ag.dec (fun h=>?_) (fun h=>?_)
 focus
  have h3:i<L.length:=Int.ofNat_lt.1 h;have hlt:L.length-(i+1)<L.length-i:=by omega
  have sub:=fp h3 rfl
  have sn:=I3 (r:=r) (X:=X) h3;rw[<-hZ]at sn;obtain⟨s,hs2⟩:=Option.isSome_iff_exists.1 (show(Z.2.K r.src).isSome=true by rw[f3];exact hs);obtain⟨d,hd2⟩:=Option.isSome_iff_exists.1 (show(Z.2.K r.dst).isSome=true by rw[f3];exact hd);have ls:=hB _ _ hs2;have ld:=hB _ _ hd2
  conv=>whnf
  refine Idx.mk i rfl h3 ?_
  conv=>whnf
  refine ay sub ?_
  conv=>whnf
  refine ag.dec (fun z=>?_) (fun z=>?_)
  focus
   have e:dK r Z L[i]=(bB r L[i].1,cw Z.2 r (bB r L[i].1)):=if_pos (by rw[<-hlst];exact z);rw[e]at sn
   conv=>whnf
   refine⟨Z.2,[gR r,.si .i64 (bB r L[i].1)],cw Z.2 r (bB r L[i].1),.tup [],_,c1,rfl,by decide,.cons .same (.cons .same .nil),hc1,sM rfl rfl rfl rfl rfl,⟨r,bB r L[i].1,s,d,rfl,hs2,hd2,ls,ld,rfl,rfl⟩,fun c2 hc2=>?_⟩
   conv=>whnf
   exact⟨⟨(i+1,c2,bB r L[i].1),h3,by rw[sn];exact hc2,by rw[sn]⟩,hlt,Aa (c:=c2) (r:=r) (L:=L) (i:=i+1) (last:=bB r L[i].1) (by decide) rfl rfl rfl rfl rfl (congrArg (AV.si .i64) hw) rfl rfl rfl rfl rfl rfl⟩
  have e:dK r Z L[i]=Z:=if_neg (by rw[<-hlst];exact z);rw[e]at sn
  conv=>whnf
  exact⟨⟨(i+1,c1,lst),h3,by rw[sn];exact hc1,by rw[sn];exact hlst⟩,hlt,Aa (c:=c1) (r:=r) (L:=L) (i:=i+1) (last:=lst) (by decide) rfl rfl rfl rfl rfl (congrArg (AV.si .i64) hw) rfl rfl rfl rfl rfl rfl⟩
 have ei:i=L.length:=by have h:¬(i:Int)<(L.length:Int):=h;omega
 have hfin:cg (sR r X L).2 c1:=by have:=hc1;rw[hZ,ei,List.take_length]at this;exact this
 conv=>whnf
 exact⟨_,c1,.told rfl,hfin,bU rfl rfl rfl rfl rfl⟩
theorem GP:ai 102 (ij 5 SpB MM):=wq (an Pp 6 _) (by kernel_rfl) SpB rfl (by decide) fun X cs X' v ⟨r,L,h1,h2,h3,h4,h5,h6,h7,h8⟩=>by
 subst h1 h7 h8;exact⟨rfl,rfl,fun c hc=>I4 X r L c hc h2 h3 h4 h5 h6⟩
end Go.Proofs.YtflehenfikoniaaGreat
