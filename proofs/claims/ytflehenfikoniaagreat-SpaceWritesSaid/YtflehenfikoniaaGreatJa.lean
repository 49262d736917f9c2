/- Texts of our own, joined: the engine, the machine that runs code, and what is known of the functions. -/
import Derived.Test.YtflehenfikoniaaGreatRows
import Derived.WalkKit
import Derived.Deep.Quiet
import Derived.ProofKit
import Derived.Laws.StructEq
import Derived.LaidEql
import Derived.Laws.BytesArg
import Derived.Maps.RangeRun
import Derived.RangeFuncSeq
import Derived.Scope
import Derived.Laws.Strings
import Derived.Laws.Strings2
set_option linter.unusedSimpArgs false
set_option linter.unusedVariables false
set_option maxHeartbeats 16000000
set_option maxRecDepth 100000
noncomputable section
namespace Go.Proofs.YtflehenfikoniaaGreat
abbrev Z0:=@Nat.le_of_ble_eq_true
abbrev Z3:=@List.mem_cons
abbrev Z4:=@List.not_mem_nil
abbrev Z5:=@List.length_append
abbrev Z6:=@Nat.le_refl
abbrev Z7:=@Bool.and_eq_true
abbrev Z8:=@Option.map_eq_some_iff
abbrev Z9:=@List.length_cons
abbrev Y0:=@List.getElem?_eq_getElem
abbrev Y4:=@List.mem_cons_of_mem
abbrev Y5:=@Nat.zero_le
abbrev Y6:=@List.getElem?_eq_some_iff
abbrev Y7:=@Nat.le_trans
abbrev Y8:=@List.take_succ_eq_append_getElem
abbrev Y9:=@List.length_map
abbrev q0a:=@List.all_eq_true
abbrev q0b:=@List.mem_cons_self
abbrev q0c:=@List.eq_nil_of_length_eq_zero
abbrev q0d:=@Nat.eq_of_beq_eq_true
abbrev q0e:=@List.mem_map
abbrev q0f:=@Array.getElem?_eq_some_iff
abbrev q0g:=@List.length_take
abbrev q0h:=@Option.map_some
abbrev q0i:=@List.getElem_mem
abbrev q0j:=@List.drop_eq_getElem_cons
abbrev q0k:=@List.take_length
abbrev q0l:=@List.mem_of_getElem?
abbrev q0m:=@List.map_append
abbrev q0n:=@Option.isSome_iff_exists
abbrev q0o:=@Nat.ble_eq_true_of_le
abbrev q0p:=@List.length_drop
abbrev q0q:=@List.append_assoc
abbrev q0r:=@Nat.mul_one
abbrev q0s:=@List.getElem?_map
abbrev q0t:=@Int.ofNat_lt
abbrev q0u:=@Nat.le_add_right
abbrev q0v:=@Int.toNat_natCast
abbrev q0w:=@Nat.zero_add
abbrev q0x:=@List.getElem?_append_right
abbrev q0y:=@Nat.lt_of_lt_of_le
abbrev q0z:=@List.append_nil
abbrev q1a:=@Array.getElem?_eq_getElem
abbrev q1b:=@List.mem_filter
abbrev q1c:=@Bool.or_eq_true
abbrev q1d:=@List.mem_append
abbrev q1e:=@List.length_filter_le
abbrev q1f:=@List.getElem?_append_left
abbrev q1g:=@List.getElem?_cons_succ
abbrev q1h:=@Nat.mul_le_mul_right
abbrev q1i:=@List.take_append_drop
abbrev q1j:=@List.length_nil
abbrev q1k:=@Nat.not_lt_zero
abbrev q1l:=@Nat.lt_succ_self
abbrev q1m:=@Nat.add_assoc
abbrev q1n:=@List.take_of_length_le
abbrev q1o:=@Nat.zero_mul
abbrev q1p:=@Nat.mod_eq_of_lt
abbrev q1q:=@List.cons_append
abbrev q1r:=@List.map_cons
abbrev q1s:=@List.mem_iff_getElem
abbrev q1t:=@List.getElem?_cons_zero
abbrev q1u:=@Array.getElem?_toList
abbrev q1v:=@List.length_singleton
abbrev q1w:=@List.pairwise_cons
abbrev q1x:=@List.all_cons
abbrev q1y:=@Int.ofNat_eq_natCast
abbrev q1z:=@Option.some.injEq
abbrev q2a:=@Option.bind_eq_some_iff
abbrev q2b:=@Bool.false_eq_true
abbrev q2c:=@List.getElem?_eq_none_iff
abbrev q2d:=@List.mem_append_left
abbrev q2e:=@Option.bind_some
abbrev q2f:=@List.nil_append
abbrev q2g:=@List.getElem?_eq_none
abbrev q2h:=@Nat.mod_two_eq_zero_or_one
abbrev q2i:=@Nat.add_mul
abbrev q2j:=@List.filter_append
abbrev q2k:=@Array.getD_eq_getD_getElem?
abbrev q2l:=@Option.map_none
abbrev q2m:=@List.mem_range
abbrev q2n:=@Nat.le_succ
abbrev q2o:=@Nat.add_zero
abbrev q2p:=@List.mem_filterMap
abbrev q2q:=@Nat.blt_eq
abbrev q2r:=@Bool.eq_iff_iff
abbrev q2s:=@List.foldl_append
abbrev q2t:=@List.getElem?_drop
abbrev q2u:=@List.nodup_cons
abbrev q2v:=@Nat.mul_comm
abbrev q2w:=@Array.ext'
abbrev q2x:=@Bool.not_eq_true'
abbrev q2y:=@List.map_congr_left
abbrev q2z:=@List.getElem_of_mem
abbrev q3a:=@Prod.mk.injEq
abbrev q3b:=@Nat.lt_or_ge
abbrev q3c:=@Nat.pos_of_ne_zero
abbrev q3d:=@Nat.div_eq_of_lt
abbrev q3e:=@List.drop_append_of_le_length
abbrev q3f:=@List.mem_of_mem_take
abbrev q3g:=@Nat.lt_irrefl
abbrev q3h:=@Nat.add_sub_cancel_left
abbrev q3i:=@Nat.sub_zero
abbrev q3j:=@List.length_pos_iff
abbrev q3k:=@List.drop_eq_nil_of_le
abbrev q3l:=@Nat.le_of_not_lt
abbrev q3m:=@List.mem_singleton
abbrev q3n:=@List.pairwise_iff_getElem
abbrev q3o:=@Decidable.of_not_not
abbrev q3p:=@Array.getElem?_setIfInBounds_ne
abbrev q3q:=@Nat.min_eq_left
abbrev q3r:=@List.nodup_append
abbrev q3s:=@List.getElem_append_left
abbrev q3t:=@Nat.pow_succ
abbrev q3u:=@Nat.succ_pos
abbrev q3v:=@Array.toList_append
abbrev q3w:=@List.filter_cons_of_neg
abbrev q3x:=@Int.ofNat_inj
abbrev q3y:=@Array.toList_map
abbrev q3z:=@Nat.succ_le_succ
abbrev q4a:=@List.sublist_cons_self
abbrev q4b:=@Classical.epsilon_spec
abbrev q4c:=@Option.map_eq_none_iff
abbrev q4d:=@Array.getElem?_modify
abbrev q4e:=@List.map_map
abbrev q4f:=@List.mem_append_right
abbrev q4g:=@List.set_append_right
abbrev q4h:=@List.eraseIdx_sublist
abbrev q4i:=@List.map_take
abbrev q4j:=@List.flatMap_cons
abbrev q4k:=@Nat.mod_lt
abbrev q4l:=@List.take_sublist
abbrev q4m:=@List.take_add_one
abbrev q4n:=@Int.negSucc_eq
abbrev q4o:=@List.drop_zero
abbrev q4p:=@List.nodup_nil
abbrev q4q:=@Nat.add_comm
end Go.Proofs.YtflehenfikoniaaGreat
namespace Go.Proofs.YtflehenfikoniaaGreat
open Go Go.RowKit
abbrev Env:=Nat->Value
def Env.upd(a:Env)(d:Nat)(v:Value):Env:=λt=>if t=d then v else a t
def Env.put(a:Env)(d:Option Nat)(v:Value):Env:=match d with
 |some d=>a.upd d v
 |none=>a
def Env.ev(a:Env):Operand->Value
 | .tmp t=>a t
 | .const v=>v
 | .global g=> .pointer (some ⟨g,0,none⟩)
 | .func f=> .func (.func f) #[] #[]
theorem rH(a:Env)(d:Nat)(v:Value):a.upd d v d=v:=by simp[Env.upd]
theorem Lo(a:Env)(d:Nat)(v:Value)(t:Nat)(h:t≠d):a.upd d v t=a t:=by simp[Env.upd,h]
theorem mz(a:Env)(d:Nat)(v:Value):a.put (some d) v=a.upd d v:=rfl
def Rel(n:Nat)(a:Act)(b:Env):Prop:=a.defers=[]/\a.tmps.size=n/\∀t,a.tmps.getD t undef=b t
theorem Rel.eval{n:Nat}{a:Act}{b:Env}(h:Rel n a b):a.eval=b.ev:=by
 funext x;cases x with
 |tmp t=>exact h.2.2 t
 |_=>rfl
theorem Rel.put{n:Nat}{a:Act}{c:Env}(h:Rel n a c){d:Option Nat}(hd:∀t,d=some t->t<n)(v:Value):Rel n (a.put d v) (c.put d v):=by
 cases d with
 |none=>exact h
 |some d=>
  have b:=hd d rfl
  refine⟨h.1,by simp[Act.put,h.2.1],λt=>?_⟩;have f:=h.2.2 t;by_cases e:t=d
  ·subst e;simp[Act.put,Env.put,Env.upd,h.2.1,b]
  ·have g:¬d=t:=λx=>e x.symm
   simp only[Act.put,Env.put,Env.upd,if_neg e];rw[<-f];simp[q2k,q3p g]
structure Hp where
 f:Nat->Option Obj
 n:Nat
def Hp.put(h:Hp)(b:Nat)(o:Obj):Hp:=⟨λx=>if x=b then some o else h.f x,h.n⟩
def Hp.to(h:Hp)(n:Nat):Hp:=⟨h.f,n⟩
def Is(w:World)(h:Hp):Prop:=w.heap.size=h.n/\∀b o,h.f b=some o->w.heap[b]?=some o
def bO(w w':World):Prop:=w'.os=w.os/\w'.tape=w.tape/\w'.output=w.output
theorem bO.refl(w:World):bO w w:=⟨rfl,rfl,rfl⟩
theorem bO.trans{a b c:World}(h:bO a b)(k:bO b c):bO a c:=⟨k.1.trans h.1,k.2.1.trans h.2.1,k.2.2.trans h.2.2⟩
def Sub(g h:Hp):Prop:=g.n=h.n/\∀b o,g.f b=some o->h.f b=some o
theorem Sub.refl(h:Hp):Sub h h:=⟨rfl,λ_ _ e=>e⟩
theorem Is.sub{w:World}{g h:Hp}(hi:Is w h)(a:Sub g h):Is w g:=⟨hi.1.trans a.1.symm,λb o e=>hi.2 b o (a.2 b o e)⟩
theorem Lp(h:Hp)(b:Nat)(o:Obj):(h.put b o).n=h.n:=rfl
theorem I9(h:Hp)(n:Nat):(h.to n).n=n:=rfl
theorem Ja(h:Hp)(n:Nat):(h.to n).f=h.f:=rfl
theorem Lq(h:Hp)(n b:Nat)(o:Obj):(h.to n).put b o=(h.put b o).to n:=rfl
theorem bX(h:Hp)(b:Nat)(o:Obj):(h.put b o).f b=some o:=by simp[Hp.put]
theorem aY(h:Hp)(b:Nat)(o:Obj)(x:Nat)(a:x≠b):(h.put b o).f x=h.f x:=by simp[Hp.put,a]
theorem Am(h:Hp)(b:Nat)(o o':Obj):(h.put b o).put b o'=h.put b o':=by
 simp only[Hp.put];congr 1;funext x;split<;>rfl
def vK(P:Program)(f:FuncId)(args:Array Value)(h:Hp)(K:Value->Hp->Prop):Prop:=
 ∀w,Is w h->Calls P f args w λe a=>∃v b,e= .returned v/\Is a b/\bO w a/\K v b
theorem vK.mono{P:Program}{f:FuncId}{args:Array Value}{h:Hp}{K b:Value->Hp->Prop}(c:vK P f args h K)(d:∀v a,K v a->b v a):vK P f args h b:=
 λw g=>(c w g).mono λ_ _ ⟨v,a,e,i,s,k⟩=>⟨v,a,e,i,s,d v a k⟩
def Fin(K:Value->Hp->Prop)(v:Value)(h:Hp):Prop:=∃g,Sub g h/\K v g
theorem Fin.here{K:Value->Hp->Prop}{v:Value}{h:Hp}(k:K v h):Fin K v h:=⟨h,Sub.refl h,k⟩
def aE(P:Program)(t:TypeId):Option Nat:=(P.info? t).map (·.size)
def kq(P:Program)(t:TypeId):Option Nat:=(P.info? t).map (·.bytes)
def cZ(P:Program)(t:TypeId):Option Value:=(P.info? t).bind (·.zero)
def nX(P:Program)(t:TypeId):Option Bool:=match P.underlying t with
 |some (.struct _)|some (.array _ _)=>some true
 |some _=>some false
 |none=>none
def pM(P:Program)(s:TypeId)(i:Nat):Option (TypeId×Nat):=match P.underlying s with
 |some (.struct a)=>match a[i]? with
  |some f=>match aE P f.type with
   |some (_+1)=>some (f.type,f.offset)
   |_=>none
  |none=>none
 |_=>none
theorem run_sizeOf{P:Program}{t:TypeId}{n:Nat}(h:aE P t=some n)(w:World):(sizeOf t).run P w= .ok n w:=by
 unfold aE at h;cases a:P.info? t with
 |none=>simp[a]at h
 |some i=>simp[a]at h;simp[sizeOf,typeInfo,a,h]
theorem jg{P:Program}{t:TypeId}{q:Bool}(h:nX P t=some q)(w:World):(isAgg t).run P w= .ok q w:=by
 unfold nX at h;cases a:P.underlying t with
 |none=>simp[a]at h
 |some d=>
  rw[a]at h;simp only[isAgg,Sem.run_bind,run_underlying a,Result.andThen_ok];cases d<;>simp_all
theorem fG{P:Program}{t:TypeId}{v:Value}(h:cZ P t=some v)(w:World):(zeroValue t).run P w= .ok v w:=by
 unfold cZ at h;cases a:P.info? t with
 |none=>simp[a]at h
 |some i=>simp[a]at h;simp[zeroValue,typeInfo,a,h]
def Fits(w:World)(h:Hp):Prop:=∀b o,h.f b=some o->w.heap[b]?=some o
theorem Is.fits{w:World}{h:Hp}(hi:Is w h):Fits w h:=hi.2
theorem Fits.cell{w:World}{h:Hp}(hi:Fits w h){b i:Nat}{c:Array Value}{t:TypeId}{fz:Nat×Nat}(e:h.f b=some (.cells c t fz)):w.cell? ⟨b,i,none⟩=c[i]?:=by
 have a:=hi b _ e;simp[World.cell?,a]
theorem Is.lt{w:World}{h:Hp}(hi:Is w h){b:Nat}{o:Obj}(e:h.f b=some o):b<h.n:=by
 have a:=hi.2 b o e;rw[<-hi.1];exact(q0f.1 a).1
theorem Is.push{w:World}{h:Hp}(hi:Is w h)(o:Obj):Is {w with heap:=w.heap.push o} ((h.put h.n o).to (h.n+1)):=by
 refine⟨by simp[hi.1,Hp.to],λb c e=>?_⟩;simp only[Hp.to,Hp.put]at e;split at e
 ·rename_i a;subst a;injection e with e;subst e;rw[<-hi.1];simp
 ·rename_i a;have d:=hi.lt e;have f:=hi.2 b c e;rw[<-hi.1]at d;simp only[Array.getElem?_push];rw[if_neg (by omega)];exact f
theorem bO.push(w:World)(o:Obj):bO w {w with heap:=w.heap.push o}:=⟨rfl,rfl,rfl⟩
theorem Is.set{w:World}{h:Hp}(hi:Is w h){b:Nat}{o o':Obj}(e:h.f b=some o){g:Array Obj}(d:g.size=w.heap.size)(i:g[b]?=some o')(j:∀x,x≠b->g[x]?=w.heap[x]?):
 Is {w with heap:=g} (h.put b o'):=by
 refine⟨by simp[d,hi.1,Hp.put],λx k c=>?_⟩;simp only[Hp.put]at c;split at c
 ·rename_i a;subst a;injection c with c;subst c;exact i
 ·rename_i a;exact(j x a).trans (hi.2 x k c)
theorem Is.setCell{w:World}{h:Hp}(hi:Is w h){b i:Nat}{c:Array Value}{t:TypeId}{fz:Nat×Nat}(e:h.f b=some (.cells c t fz))(v:Value):
 Is (w.setCell ⟨b,i,none⟩ v) (h.put b (.cells (c.setIfInBounds i v) t fz)):=by
 have a:=hi.2 b _ e;refine hi.set e (by simp) ?_ (λx d=>?_)
 ·simp[q4d,a]
 ·have:¬b=x:=λe=>d e.symm
  simp[q4d,this]
theorem bO.setCell(w:World)(a:Addr)(v:Value):bO w (w.setCell a v):=⟨rfl,rfl,rfl⟩
theorem Is.cell{w:World}{h:Hp}(hi:Is w h){b i:Nat}{c:Array Value}{t:TypeId}{fz:Nat×Nat}(e:h.f b=some (.cells c t fz)):w.cell? ⟨b,i,none⟩=c[i]?:=by
 have a:=hi.2 b _ e;simp[World.cell?,a]
theorem Is.frozen{w:World}{h:Hp}(hi:Is w h){b i:Nat}{c:Array Value}{t:TypeId}{fz:Nat×Nat}(e:h.f b=some (.cells c t fz))(a:fz.2<=fz.1∨i<fz.1):w.frozen? ⟨b,i,none⟩=false:=by
 have d:=hi.2 b _ e;obtain⟨lo,g⟩:=fz;simp only[World.frozen?,d];simp only at a;simp;omega
theorem kX(b o k:Nat):(Addr.mk b o none).add k=⟨b,o+k,none⟩:=by
 unfold Addr.add;split
 ·rename_i h;subst h;rfl
 ·rfl
def cO(c:Array Value)(o:Nat):Nat->Option (List Value)
 |0=>some []
 |n+1=>match c[o]?,cO c (o+1) n with
  |some x,some l=>some (x::l)
  |_,_=>none
def eu(c:Array Value)(o:Nat):List Value->Array Value
 | []=>c
 |x::l=>eu (c.setIfInBounds o x) (o+1) l
theorem run_loadCellsFrom{P:Program}{w:World}{b:Nat}{c:Array Value}(a:∀i,w.cell? ⟨b,i,none⟩=c[i]?):∀(n o i:Nat) (acc:Array Value) (l:List Value),cO c (o+i) n=some l->
 (loadCellsFrom ⟨b,o,none⟩ i n acc).run P w= .ok (acc++l.toArray) w
 |0,o,i,acc,l,h=>by
  injection h with h;subst h;simp[loadCellsFrom]
 |n+1,o,i,acc,l,h=>by
  simp only[cO]at h;split at h
  ·rename_i x l' d e;injection h with h;subst h;have f:=run_loadCellsFrom (P:=P) a n o (i+1) (acc.push x) l' (by rw[<-q1m];exact e);simp only[loadCellsFrom,Sem.run_bind,kX];rw[show(Go.load ⟨b,o+i,none⟩).run P w= .ok x w from by simp[Go.load,Sem.run,a,d]];simp only[Result.andThen_ok,f];congr 1;apply q2w;simp
  ·cases h
theorem run_loadCells{P:Program}{w:World}{b:Nat}{c:Array Value}(a:∀i,w.cell? ⟨b,i,none⟩=c[i]?){n o:Nat}{l:List Value}(h:cO c o n=some l):
 (loadCells ⟨b,o,none⟩ n).run P w= .ok l.toArray w:=by
 have:=run_loadCellsFrom (P:=P) a n o 0 #[] l h;simpa[loadCells]using this
def rI(fz:Nat×Nat)(o n:Nat):Prop:=fz.2<=fz.1∨o+n<=fz.1
theorem jh(o n:Nat):rI (0,0) o n:= .inl (Z6 _)
theorem iL{P:Program}{t:TypeId}{b:Nat}{fz:Nat×Nat}:∀(l:List Value) (w:World) (h:Hp) (c:Array Value) (o i:Nat),(∀x∈l,x.oneCell'=true)->o+i+l.length<=c.size->rI fz (o+i) l.length->Is w h->h.f b=some (.cells c t fz)->
 ∃w',(storeCells ⟨b,o,none⟩ l i).run P w= .ok () w'/\Is w' (h.put b (.cells (eu c (o+i) l) t fz))/\bO w w'
 | [],w,h,c,o,i,_,_,_,hi,e=>by
  refine⟨w,by simp[storeCells],?_,bO.refl w⟩
  have:h.put b (.cells (eu c (o+i) []) t fz)=h:=by
   simp only[Hp.put,eu];cases h;congr 1;funext x;split
   ·rename_i q;subst q;exact e.symm
   ·rfl
  rw[this];exact hi
 |x::l,w,h,c,o,i,m,r,n,hi,e=>by
  simp only[Z9]at r;unfold rI at n;simp only[Z9]at n;have d:o+i<c.size:=by omega
  have s:=run_store P w ⟨b,o+i,none⟩ x .plain (m x (by simp));have a:=hi.cell (i:=o+i) e;have g:=hi.frozen (i:=o+i) e (by omega);rw[q1a d]at a;have j:=hi.setCell (i:=o+i) e x;obtain⟨w',u,p,k⟩:=iL l (w.setCell ⟨b,o+i,none⟩ x) _ (c.setIfInBounds (o+i) x) o (i+1) (λy v=>m y (by simp[v])) (by simp;omega) (by unfold rI;omega) j (bX _ _ _);refine⟨w',?_,?_,(bO.setCell _ _ _).trans k⟩
  ·simp only[storeCells,Sem.run_bind,kX];rw[show(Go.store ⟨b,o+i,none⟩ x .plain).run P w= .ok () (w.setCell ⟨b,o+i,none⟩ x) from by rw[s];simp only[stored,a,g];rfl];simpa using u
  ·rw[Am]at p;simpa[eu,q1m]using p
abbrev KH:=Value->Hp->Prop
def Br(q:Bool)(A B:Prop):Prop:=(q=true->A)/\(q=false->B)
theorem G0{q:Bool}{A B:Prop}(h:Br q A B):(q=true/\A)∨(q=false/\B):=by
 cases q
 ·exact .inr ⟨rfl,h.2 rfl⟩
 ·exact .inl ⟨rfl,h.1 rfl⟩
def iM(P:Program)(s:Sem Value)(h:Hp)(K:KH):Prop:=∀w,Is w h->∃v a b,s.run P w= .ok v a/\Is a b/\bO w a/\K v b
def PG(P:Program)(s:Sem Value)(h:Hp)(K:Value->Prop):Prop:=∃v,K v/\∀w,Fits w h->s.run P w= .ok v w
theorem PG.here{P:Program}{s:Sem Value}{h:Hp}{K:Value->Prop}{v:Value}(a:∀w,Fits w h->s.run P w= .ok v w)(b:K v):PG P s h K:=⟨v,b,a⟩
theorem PG.Cd{P:Program}{s:Sem Value}{h:Hp}{K:KH}(b:PG P s h (λv=>K v h)):iM P s h K:=
 let⟨v,c,d⟩:=b
 λw a=>⟨v,w,h,d w a.fits,a,bO.refl w,c⟩
def cf(op:BinOp)(k:IntKind)(x y:Int):Int:=
 k.wrap ((match op with
  | .and=>BitVec.ofInt k.bits x&&&BitVec.ofInt k.bits y
  | .or=>BitVec.ofInt k.bits x|||BitVec.ofInt k.bits y
  | .xor=>BitVec.ofInt k.bits x^^^BitVec.ofInt k.bits y
  |_=>BitVec.ofInt k.bits x&&& ~~~BitVec.ofInt k.bits y).toNat:Int)
def gW(P:Program):List Field->Option (List (Nat×Nat))
 | []=>some []
 |f::a=>if f.name= "_" then gW P a else if nX P f.type=some false then(match P.underlying f.type with
  |some (.int _)=>(gW P a).map ((0,f.offset)::·)
  |some .string=>(gW P a).map ((1,f.offset)::·)
  |some .bool=>(gW P a).map ((2,f.offset)::·)
  |_=>none)else none
def iN(P:Program)(t:TypeId):Option (List (Nat×Nat)):=match P.underlying t with
 |some (.struct a)=>if P.stoodInHeld t=false/\P.eqGuardType P.depth t=false then gW P a.toList else none
 |_=>none
def cP(xs c:Array Value):List (Nat×Nat)->Option Bool
 | []=>some true
 |(k,o)::l=>(match xs[o]?,c[o]? with
  |some (.int d a),some (.int e b)=>if k=0/\d=e then(cP xs c l).map (decide (a=b)&&·)else none
  |some (.string a),some (.string b)=>if k=1 then(cP xs c l).map ((a.toList==b.toList)&&·)else none
  |some (.bool a),some (.bool b)=>if k=2 then(cP xs c l).map ((a==b)&&·)else none
  |_,_=>none)
def vL(P:Program)(t:TypeId)(xs a:Array Value):Option Bool:=(iN P t).bind (cP xs a)
theorem jA{P:Program}{xs m:Array Value}(d:Nat):∀(j:List Field) (l:List (Nat×Nat)) (q:Bool),gW P j=some l->cP xs m l=some q->∀w,(Op.eqFields (d+1) xs m j).run P w= .ok q w
 | [],l,q,h,c,w=>by
  injection h with h;subst h;injection c with c;subst c;simp[Op.eqFields]
 |f::j,l,q,h,c,w=>by
  unfold gW at h;unfold Op.eqFields;split at h
  ·rename_i hn;rw[if_neg (by simp[hn])];exact jA d j l q h c w
  ·rename_i hn;rw[if_pos hn];split at h
   ·rename_i v
    have step:∀(a b:Value) (r i:Bool) (l':List (Nat×Nat)),xs[f.offset]?=some a->m[f.offset]?=some b->(Op.equalIn (d+1) f.type a b).run P w= .ok r w->gW P j=some l'->cP xs m l'=some i->q=(r&&i)->
     (do
      let a<-part f.type xs f.offset
      let b<-part f.type m f.offset
      let r<-Op.equalIn (d+1) f.type a b
      if(!r)=true then pure false else Op.eqFields (d+1) xs m j:Sem Bool).run P w= .ok q w:=λa b r i l' n o x el eq y=>by
     subst y;have z:(part f.type xs f.offset).run P w= .ok a w:=by simp[part,jg v,n]
     have A:(part f.type m f.offset).run P w= .ok b w:=by simp[part,jg v,o]
     simp only[Sem.run_bind,z,A,x,Result.andThen_ok];cases r with
     |false=>simp
     |true=>simpa using jA d j l' i el eq w
    have g:∀k:Nat,(gW P j).map ((k,f.offset)::·)=some l->∃l',gW P j=some l'/\l=(k,f.offset)::l':=λk h=>by
     simp only[Z8]at h;obtain⟨l',p,s⟩:=h;exact⟨l',p,s.symm⟩
    split at h
    ·rename_i k t;obtain⟨l',p,rfl⟩:=g 0 h;simp only[cP]at c;split at c
     ·rename_i B a D b n o;split at c
      ·rename_i C;obtain⟨_,rfl⟩:=C;simp only[Z8]at c;obtain⟨i,s,u⟩:=c;exact step _ _ _ i l' n o (run_equalIn_int w d f.type B k a b t) p s (by rw[<-u];by_cases e:a=b<;>simp[e])
      ·cases c
     ·split at c
      ·omega
      ·cases c
     ·split at c
      ·omega
      ·cases c
     ·cases c
    ·rename_i t;obtain⟨l',p,rfl⟩:=g 1 h;simp only[cP]at c;split at c
     ·split at c
      ·omega
      ·cases c
     ·rename_i a b n o;split at c
      ·skip
       simp only[Z8]at c;obtain⟨i,s,u⟩:=c;exact step _ _ _ i l' n o (run_equalIn_string w d f.type a b t) p s (u.symm)
      ·cases c
     ·split at c
      ·omega
      ·cases c
     ·cases c
    ·rename_i t;obtain⟨l',p,rfl⟩:=g 2 h;simp only[cP]at c;split at c
     ·split at c
      ·omega
      ·cases c
     ·split at c
      ·omega
      ·cases c
     ·rename_i a b n o;split at c
      ·skip
       simp only[Z8]at c;obtain⟨i,s,u⟩:=c;exact step _ _ _ i l' n o (run_equalIn_bool' w d f.type a b t) p s (u.symm)
      ·cases c
     ·cases c
    ·cases h
   ·cases h
def kY(P:Program)(op:BinOp)(t:TypeId)(x y:Value)(K:Value->Prop):Prop:=
 match x,y with
 | .int k a,.int c b=>(match op with
  | .shl=>0<=b/\K (.int k (k.wrap (a*2^min b.toNat k.bits)))
  | .shr=>0<=b/\K (.int k (a.fdiv (2^min b.toNat k.bits)))
  | .add=>k=c/\K (.int k (k.wrap (a+b)))
  | .sub=>k=c/\K (.int k (k.wrap (a-b)))
  | .mul=>k=c/\K (.int k (k.wrap (a*b)))
  | .quo=>k=c/\b≠0/\K (.int k (k.wrap (a.tdiv b)))
  | .rem=>k=c/\b≠0/\K (.int k (a.tmod b))
  | .and=>k=c/\K (.int k (cf .and k a b))
  | .or=>k=c/\K (.int k (cf .or k a b))
  | .xor=>k=c/\K (.int k (cf .xor k a b))
  | .andNot=>k=c/\K (.int k (cf .andNot k a b))
  | .eql=>k=c/\K (.bool (decide (a=b)))
  | .neq=>k=c/\K (.bool (decide (a≠b)))
  | .lss=>k=c/\K (.bool (decide (a<b)))
  | .leq=>k=c/\K (.bool (decide (a<=b)))
  | .gtr=>k=c/\K (.bool (decide (b<a)))
  | .geq=>k=c/\K (.bool (decide (b<=a))))
 | .string a,.string b=>(match op with
  | .add=>a.size+b.size<=9223372036854775807/\K (.string (a++b))
  | .eql=>K (.bool (a.toList==b.toList))
  | .neq=>K (.bool (!(a.toList==b.toList)))
  | .lss=>K (.bool (Op.bytesLess a.toList b.toList))
  | .leq=>K (.bool (Op.bytesLess a.toList b.toList||a.toList==b.toList))
  | .gtr=>K (.bool (!(Op.bytesLess a.toList b.toList||a.toList==b.toList)))
  | .geq=>K (.bool (!(Op.bytesLess a.toList b.toList)))
  |_=>False)
 | .bool a,.bool b=>(match op with
  | .eql=>P.underlying t=some .bool/\K (.bool (a==b))
  | .neq=>P.underlying t=some .bool/\K (.bool (!(a==b)))
  |_=>False)
 | .pointer p,.pointer none=>(match op,P.underlying t with
  | .eql,some (.pointer _)=>K (.bool p.isNone)
  | .neq,some (.pointer _)=>K (.bool (!p.isNone))
  |_,_=>False)
 | .slice p _ _,.slice none _ _=>(match op,P.underlying t with
  | .eql,some (.slice _)=>K (.bool p.isNone)
  | .neq,some (.slice _)=>K (.bool (!p.isNone))
  |_,_=>False)
 | .agg xs,.agg d=>(match op,vL P t xs d with
  | .eql,some q=>K (.bool q)
  | .neq,some q=>K (.bool (!q))
  |_,_=>False)
 |_,_=>False
theorem run_equal_bool{P:Program}{t:TypeId}(c:P.underlying t=some .bool)(a b:Bool)(w:World):(Op.equal t (.bool a) (.bool b)).run P w= .ok (a==b) w:=by
 have h:∀d,(Op.equalIn (d+1) t (.bool a) (.bool b)).run P w= .ok (a==b) w:=λd=>by simp[Op.equalIn,run_underlying c]
 exact h 9999
theorem qp{P:Program}{t e:TypeId}(a:P.underlying t=some (.pointer e))(p:Option Addr)(w:World):(Op.equal t (.pointer p) (.pointer none)).run P w= .ok p.isNone w:=by
 have h:∀d,(Op.equalIn (d+1) t (.pointer p) (.pointer none)).run P w= .ok p.isNone w:=λd=>by cases p<;>simp[Op.equalIn,run_underlying a]
 exact h 9999
theorem nY{P:Program}{t e:TypeId}(f:P.underlying t=some (.slice e))(p:Option Addr)(n c a b:Nat)(w:World):(Op.equal t (.slice p n c) (.slice none a b)).run P w= .ok p.isNone w:=by
 have h:∀d,(Op.equalIn (d+1) t (.slice p n c) (.slice none a b)).run P w= .ok p.isNone w:=λd=>by cases p<;>simp[Op.equalIn,run_underlying f]
 exact h 9999
theorem EX{P:Program}{op:BinOp}{t:TypeId}{o r:Operand}{x y:Value}{h:Hp}{K:Value->Prop}(d:kY P op t x y K):
 PG P (do eqGuard op t o r x y;binOp op t x y) h K:=by
 unfold kY at d;split at d
 ·rename_i k a A b;cases op<;>simp only at d
  case shl=>exact .here (λw _=>by simp[eqGuard,binOp,Op.shift,Int.not_lt.2 d.1]) d.2
  case shr=>exact .here (λw _=>by simp[eqGuard,binOp,Op.shift,Int.not_lt.2 d.1]) d.2
  all_goals obtain⟨rfl,d⟩:=d
  case quo=>exact .here (λw _=>by simp[eqGuard,binOp,Op.intDiv,d.1]) d.2
  case rem=>exact .here (λw _=>by simp[eqGuard,binOp,Op.intDiv,d.1]) d.2
  all_goals refine .here (λw _=>?_) d
  all_goals simp[eqGuard,binOp,Op.intArith,Op.intBits,cf,Op.intCmp,GT.gt,GE.ge]
  case neq=>by_cases e:a=b<;>simp[e,bne]
  all_goals(by_cases e:a=b<;>simp[e])
 ·rename_i a b;cases op<;>simp only at d
  case add=>
   have j:¬(((a.size+b.size:Nat):Int)>IntKind.i64.max):=by
    have:IntKind.i64.max=9223372036854775807:=by decide
    omega
   exact .here (λw _=>by simp only[eqGuard,binOp,Op.stringOp,j,if_false];simp) d.2
  all_goals first|exact d.elim|exact .here (λw _=>by simp[eqGuard,binOp,Op.stringOp]) d
 ·rename_i a b;cases op<;>simp only at d
  case eql=>exact .here (λw _=>by simp[eqGuard,binOp,run_equal_bool d.1]) d.2
  case neq=>exact .here (λw _=>by simp[eqGuard,binOp,run_equal_bool d.1]) d.2
 ·rename_i p;split at d
  ·rename_i f;exact .here (λw _=>by simp[eqGuard,binOp,qp f]) d
  ·rename_i f;exact .here (λw _=>by simp[eqGuard,binOp,qp f]) d
  ·exact d.elim
 ·rename_i p n c B C;split at d
  ·rename_i f;exact .here (λw _=>by simp[eqGuard,binOp,nY f]) d
  ·rename_i f;exact .here (λw _=>by simp[eqGuard,binOp,nY f]) d
  ·exact d.elim
 ·rename_i xs m
  have key:∀q,vL P t xs m=some q->(∀w,(Op.equalIn 10000 t (.agg xs) (.agg m)).run P w= .ok q w)/\P.eqGuardType P.depth t=false:=λq g=>by
   simp only[vL,q2a]at g;obtain⟨l,i,g⟩:=g;unfold iN at i;split at i
   ·rename_i z f;split at i
    ·rename_i u;have v:P.fieldsOf t=z:=by simp[Program.fieldsOf,f]
     refine⟨λw=>?_,u.2⟩;rw[run_equalIn_struct w 9999 t xs m (by rw[v];exact f) u.1,v];exact jA 9998 _ l q i g w
    ·cases i
   ·cases i
  split at d
  ·rename_i q g;obtain⟨s,j⟩:=key q g;exact .here (λw _=>by simp only[Sem.run_bind,run_eqGuard_agg w _ t o r xs m j,Result.andThen_ok,run_eql_struct,s w]) d
  ·rename_i q g;obtain⟨s,j⟩:=key q g;exact .here (λw _=>by simp only[Sem.run_bind,run_eqGuard_agg w _ t o r xs m j,Result.andThen_ok,run_neq_struct,s w]) d
  ·exact d.elim
 ·exact d.elim
def aun(op:UnOp)(x:Value)(K:Value->Prop):Prop:=
 match op,x with
 | .not,.bool b=>K (.bool (!b))
 | .neg,.int k n=>K (.int k (k.wrap (0-n)))
 | .xor,.int k n=>K (.int k (cf .xor k (if k.signed then-1 else k.max) n))
 |_,_=>False
theorem Jb{P:Program}{op:UnOp}{x:Value}{h:Hp}{K:Value->Prop}(a:aun op x K):PG P (Op.unary op x) h K:=by
 unfold aun at a;split at a
 ·exact .here (λw _=>by simp[Op.unary]) a
 ·exact .here (λw _=>by simp[Op.unary,Op.intArith]) a
 ·exact .here (λw _=>by simp[Op.unary,Op.intBits,cf]) a
 ·exact a.elim
def kZ(P:Program)(t:TypeId)(a:Value)(h:Hp)(K:Value->Prop):Prop:=
 match a with
 | .pointer (some ⟨b,o,none⟩)=>(match h.f b with
  |some (.cells c _ _)=>(match nX P t with
   |some false=>(match c[o]? with
    |some v=>K v
    |none=>False)
   |some true=>(match aE P t with
    |some n=>(match cO c o n with
     |some l=>K (.agg l.toArray)
     |none=>False)
    |none=>False)
   |none=>False)
  |_=>False)
 |_=>False
theorem uA{P:Program}{t:TypeId}{a:Value}{h:Hp}{K:Value->Prop}(d:kZ P t a h K):PG P (Instr.loadAt t a) h K:=by
 unfold kZ at d;split at d
 ·rename_i b o;split at d
  ·rename_i c e fz j;split at d
   ·rename_i f;split at d
    ·rename_i v k;refine .here (λw g=>?_) d;have m:=(g.cell (i:=o) j).trans k;simp[Instr.loadAt,Instr.sureAddr,loadVar,jg f,Go.load,Sem.run,m]
    ·exact d.elim
   ·rename_i f;split at d
    ·rename_i n p;split at d
     ·rename_i l q;refine .here (λw g=>?_) d;simp[Instr.loadAt,Instr.sureAddr,loadVar,jg f,run_sizeOf p,run_loadCells (P:=P) (w:=w) (λi=>g.cell (i:=i) j) q]
     ·exact d.elim
    ·exact d.elim
   ·exact d.elim
  ·exact d.elim
 ·exact d.elim
def oq(P:Program)(t:TypeId)(a v:Value)(h:Hp)(K:KH):Prop:=
 match a with
 | .pointer (some ⟨b,o,none⟩)=>(match h.f b with
  |some (.cells c e fz)=>aE P t=some v.cells.size/\(v.cells.toList.all Value.oneCell'=true)/\o+v.cells.size<=c.size/\rI fz o v.cells.size/\K undef (h.put b (.cells (eu c o v.cells.toList) e fz))
  |_=>False)
 |_=>False
theorem An{P:Program}{t:TypeId}{a v:Value}{h:Hp}{K:KH}(d:oq P t a v h K)(w:World)(hi:Is w h):
 ∃w' i,(Instr.storeAt t a v).run P w= .ok () w'/\Is w' i/\bO w w'/\K undef i:=by
 unfold oq at d;split at d
 ·rename_i b o;split at d
  ·rename_i c e fz j;obtain⟨k,l,m,n,d⟩:=d;obtain⟨w',p,g,f⟩:=iL (P:=P) v.cells.toList w h c o 0 (λx q=>q0a.1 l x q) (by simpa using m) (by simpa using n) hi j;refine⟨w',_,?_,g,f,by simpa using d⟩;simp[Instr.storeAt,Instr.sureAddr,storeVar,run_sizeOf k,p]
  ·exact d.elim
 ·exact d.elim
def ga(P:Program)(s:TypeId)(a:Value)(i:Nat)(K:Value->Prop):Prop:=
 match a,pM P s i with
 | .pointer (some ⟨b,o,none⟩),some (_,off)=>K (.pointer (some ⟨b,o+off,none⟩))
 |_,_=>False
theorem rJ{P:Program}{s t:TypeId}{i off:Nat}(h:pM P s i=some (t,off)):
 ∃a f n,P.underlying s=some (.struct a)/\a[i]?=some f/\f.type=t/\f.offset=off/\aE P t=some (n+1):=by
 unfold pM at h;split at h
 ·rename_i a b;split at h
  ·rename_i f c;split at h
   ·rename_i n d;simp only[q1z,q3a]at h;obtain⟨e,g⟩:=h;subst e g;exact⟨a,f,n,b,c,rfl,rfl,d⟩
   ·cases h
  ·cases h
 ·cases h
theorem tw{P:Program}{s:TypeId}{a:Value}{i:Nat}{h:Hp}{K:Value->Prop}(c:ga P s a i K):PG P (Instr.fieldAt s a i) h K:=by
 unfold ga at c;split at c
 ·rename_i b o t off d;obtain⟨k,f,n,e,g,rfl,rfl,j⟩:=rJ d;refine .here (λw l=>?_) c;simp[Instr.fieldAt,run_underlying e,g,Instr.sureAddr,fieldPlace,run_sizeOf j,kX]
 ·exact c.elim
def nc(P:Program)(t:TypeId)(cs:Array Value)(off:Nat)(K:Value->Prop):Prop:=
 match nX P t with
 |some false=>(match cs[off]? with
  |some v=>K v
  |none=>False)
 |some true=>(match aE P t with
  |some n=>K (.agg (cs.extract off (off+n)))
  |none=>False)
 |none=>False
theorem uB{P:Program}{t:TypeId}{cs:Array Value}{off:Nat}{h:Hp}{K:Value->Prop}(a:nc P t cs off K):PG P (part t cs off) h K:=by
 unfold nc at a;split at a
 ·rename_i b;split at a
  ·rename_i v c;exact .here (λw _=>by simp[part,jg b,c]) a
  ·exact a.elim
 ·rename_i b;split at a
  ·rename_i n d;exact .here (λw _=>by simp[part,jg b,run_sizeOf d]) a
  ·exact a.elim
 ·exact a.elim
def qH(P:Program)(s:TypeId)(x:Value)(i:Nat)(K:Value->Prop):Prop:=
 match x,pM P s i with
 | .agg cs,some (t,off)=>nc P t cs off K
 |_,_=>False
theorem Ao{P:Program}{s:TypeId}{x:Value}{i:Nat}{h:Hp}{K:Value->Prop}(a:qH P s x i K):PG P (Instr.field s x i) h K:=by
 unfold qH at a;split at a
 ·rename_i cs t off b;obtain⟨k,f,n,c,d,rfl,rfl,l⟩:=rJ b;obtain⟨v,e,g⟩:=uB (h:=h) a;exact⟨v,e,λw j=>by simpa[Instr.field,run_underlying c,d,asAgg]using g w j⟩
 ·exact a.elim
def cG(P:Program)(t:TypeId)(x ix:Value)(K:Value->Prop):Prop:=
 match ix with
 | .int _ i=>(match P.underlying t,x with
  |some (.slice e),.slice (some ⟨b,o,none⟩) len _=>0<=i/\i<(len:Int)/\(match aE P e with
   |some k=>K (.pointer (some ⟨b,o+i.toNat*k,none⟩))
   |none=>False)
  |some (.array len e),.pointer (some ⟨b,o,none⟩)=>0<=i/\i<(len:Int)/\(match aE P e with
   |some k=>K (.pointer (some ⟨b,o+i.toNat*k,none⟩))
   |none=>False)
  |_,_=>False)
 |_=>False
theorem tz{P:Program}{t:TypeId}{x ix:Value}{h:Hp}{K:Value->Prop}(a:cG P t x ix K):PG P (Instr.indexAt t x ix) h K:=by
 unfold cG at a;split at a
 ·rename_i j i;split at a
  ·rename_i e b o len cap c;obtain⟨d,f,a⟩:=a;split at a
   ·rename_i k g;exact .here (λw _=>by simp[Instr.indexAt,asIntOf,run_underlying c,d,f,run_sizeOf g,kX]) a
   ·exact a.elim
  ·rename_i len e b o c;obtain⟨d,f,a⟩:=a;split at a
   ·rename_i k g;exact .here (λw _=>by simp[Instr.indexAt,asIntOf,run_underlying c,d,f,run_sizeOf g,kX,Instr.sureAddr]) a
   ·exact a.elim
  ·exact a.elim
 ·exact a.elim
def jX(P:Program)(t:TypeId)(x ix:Value)(K:Value->Prop):Prop:=
 match ix with
 | .int _ i=>(match P.underlying t,x with
  |some (.array len e),.agg cs=>0<=i/\i<(len:Int)/\(match aE P e with
   |some k=>nc P e cs (i.toNat*k) K
   |none=>False)
  |some .string,.string s=>0<=i/\(match s.toList[i.toNat]? with
   |some b=>K (.int .u8 b.toNat)
   |none=>False)
  |_,_=>False)
 |_=>False
theorem vM(s:ByteArray)(i:Nat):s[i]?=s.toList[i]?:=by
 rw[ByteArray.toList_eq];by_cases a:i<s.size
 ·rw[getElem?_pos s i a,Y0 (by simpa using a)];rfl
 ·rw[getElem?_neg s i a,q2g (by simpa using a)]
theorem Ap{P:Program}{t:TypeId}{x ix:Value}{h:Hp}{K:Value->Prop}(a:jX P t x ix K):PG P (Instr.index t x ix) h K:=by
 unfold jX at a;split at a
 ·rename_i o i;split at a
  ·rename_i len e cs c;obtain⟨d,f,a⟩:=a;split at a
   ·rename_i k g;obtain⟨v,j,l⟩:=uB (h:=h) a;exact⟨v,j,λw m=>by simpa[Instr.index,asIntOf,run_underlying c,d,f,run_sizeOf g]using l w m⟩
   ·exact a.elim
  ·rename_i s c;obtain⟨d,a⟩:=a;split at a
   ·rename_i b n;exact .here (λw _=>by simp[Instr.index,asIntOf,run_underlying c,d,vM,n]) a
   ·exact a.elim
  ·exact a.elim
 ·exact a.elim
def k7(x:Value)(i:Nat)(K:Value->Prop):Prop:=
 match x with
 | .tuple a=>(match a[i]? with
  |some v=>K v
  |none=>False)
 |_=>False
theorem vO{P:Program}{x:Value}{i:Nat}{h:Hp}{K:Value->Prop}(a:k7 x i K):PG P (Instr.extract x i) h K:=by
 unfold k7 at a;split at a
 ·split at a
  ·rename_i v b;exact .here (λw _=>by simp[Instr.extract,b]) a
  ·exact a.elim
 ·exact a.elim
def Jc(e:TypeId)(cs:Array Value)(h:Hp)(K:KH):Prop:=K (.pointer (some ⟨h.n,0,none⟩)) ((h.put h.n (.cells cs e (0,0))).to (h.n+1))
theorem k8{P:Program}(e:TypeId)(cs:Array Value){w:World}{h:Hp}(hi:Is w h):(newRow e cs).run P w= .ok ⟨h.n,0,none⟩ {w with heap:=w.heap.push (.cells cs e (0,0))}:=by
 simp only[newRow,newObj,Sem.run_bind];rw[show(Sem.new (.cells cs e) .pure).run P w= .ok w.heap.size {w with heap:=w.heap.push (.cells cs e (0,0))} from by simp[Sem.run]];simp[hi.1]
theorem vQ{P:Program}{e:TypeId}{cs:Array Value}{h:Hp}{K:KH}(b:Jc e cs h K):iM P (do pure (.pointer (some (<-newRow e cs)))) h K:=λw a=>
 ⟨_,_,_,by simp only[Sem.run_bind,k8 e cs a];rfl,a.push _,bO.push _ _,b⟩
def qI(P:Program)(e:TypeId)(h:Hp)(K:KH):Prop:=
 match cZ P e with
 |some z=>Jc e z.cells h K
 |none=>False
theorem Aq{P:Program}{e:TypeId}{h:Hp}{K:KH}(a:qI P e h K):iM P (Instr.alloc e true (.tuple #[])) h K:=by
 unfold qI at a;split at a
 ·rename_i z b;intro w c;obtain⟨v,d,f,g,r⟩:=vQ a w c;exact⟨v,d,f,by simpa[Instr.alloc,fG b,newVar]using g,r⟩
 ·exact a.elim
def rL(place:Nat->Option (Nat×Nat))(cells:Array Value):List (Nat×Value)->Option (Array Value)
 | []=>some cells
 |(i,v)::rest=>(match place i with
  |none=>none
  |some (off,size)=>if v.cells.size=size/\off+size<=cells.size then rL place (eu cells off v.cells.toList) rest else none)
theorem yR:∀(l:List Value) (c:Array Value) (o k:Nat),(l.zipIdx k).foldl (λcs (x:Value×Nat)=>cs.setIfInBounds (o+x.2) x.1) c=eu c (o+k) l
 | [],c,o,k=>rfl
 |x::l,c,o,k=>by
  simp only[List.zipIdx_cons,List.foldl_cons,eu];rw[yR l _ o (k+1)];rfl
theorem rM(place:Nat->Option (Nat×Nat)):∀(l:List (Nat×Value)) (cells r:Array Value),rL place cells l=some r->Instr.fill place cells l=some r
 | [],cells,r,h=>h
 |(i,v)::l,cells,r,h=>by
  simp only[rL]at h;split at h
  ·cases h
  ·rename_i off size b;split at h
   ·rename_i c;have a:=rM place l _ r h;simp only[Instr.fill,b];rw[if_neg (by rw[c.1];simp;omega)];have:=yR v.cells.toList cells off 0;simp only[q2o]at this;rw[<-this]at a
    have e:v.cells.zipIdx.foldl (λcs (x:Value×Nat)=>cs.setIfInBounds (off+x.2) x.1) cells=v.cells.toList.zipIdx.foldl (λcs (x:Value×Nat)=>cs.setIfInBounds (off+x.2) x.1) cells:=by
     rw[<-Array.foldl_toList];simp
    rw[<-e]at a;exact a
   ·cases h
def iO(P:Program)(a:Array Field)(i:Nat):Option (Nat×Nat):=match a[i]? with
 |some f=>(aE P f.type).map λs=>(f.offset,s)
 |none=>none
def pN(P:Program)(t:TypeId)(parts:List (Nat×Value)):Option (Array Value):=
 match cZ P t with
 |some z=>(match P.underlying t with
  |some (.struct a)=>if(a.toList.all λf=>(aE P f.type).isSome)=true then rL (iO P a) z.cells parts else none
  |some (.array _ e)=>(match aE P e with
   |some s=>rL (λi=>some (i*s,s)) z.cells parts
   |none=>none)
  |_=>none)
 |none=>none
theorem run_places{P:Program}(w:World):∀(l:List Field),(l.all λf=>(aE P f.type).isSome)=true->
 (l.mapM (λf=>(do pure (f.offset,<-sizeOf f.type):Sem (Nat×Nat)))).run P w= .ok (l.map λf=>(f.offset,(aE P f.type).getD 0)) w
 | [],_=>by simp
 |f::l,h=>by
  simp only[q1x,Z7]at h;obtain⟨n,hn⟩:=q0n.1 h.1;rw[List.mapM_cons];simp only[Sem.run_bind,run_sizeOf hn,Result.andThen_ok,Sem.run_pure,run_places w l h.2,q1r,hn,Option.getD_some]
theorem yC{P:Program}{t:TypeId}{parts:Array (Nat×Value)}{r:Array Value}(b:pN P t parts.toList=some r)(w:World):(Instr.build t parts).run P w= .ok (.agg r) w:=by
 unfold pN at b;split at b
 ·rename_i z j;split at b
  ·rename_i d g;split at b
   ·rename_i c;have k:=run_places (P:=P) w d.toList c
    have l:(d.mapM (λf=>(do pure (f.offset,<-sizeOf f.type):Sem (Nat×Nat)))).run P w= .ok (d.map λf=>(f.offset,(aE P f.type).getD 0)) w:=by
     rw[Array.mapM_eq_mapM_toList,Sem.run_map,k];simp only[Result.andThen_ok];congr 1;apply q2w;simp
    have h:(λi=>(d.map λf=>(f.offset,(aE P f.type).getD 0))[i]?)=iO P d:=by
     funext i;simp only[iO,Array.getElem?_map];cases m:d[i]? with
     |none=>rfl
     |some f=>
      have:(aE P f.type).isSome=true:=q0a.1 c f (by simpa using Array.mem_of_getElem? m);obtain⟨n,o⟩:=q0n.1 this;simp[o]
    have a:=rM _ _ _ _ b;rw[<-h]at a;simp only[Instr.build,Sem.run_bind,fG j,Result.andThen_ok,run_underlying g,l,a];rfl
   ·cases b
  ·rename_i n e g;split at b
   ·rename_i s p;have a:=rM _ _ _ _ b;simp only[Instr.build,Sem.run_bind,fG j,Result.andThen_ok,run_underlying g,run_sizeOf p,a];rfl
   ·cases b
  ·cases b
 ·cases b
def cQ(z:List Value):Nat->List Value
 |0=> []
 |n+1=>z++cQ z n
theorem uC(z:List Value):∀n,cQ z (n+1)=cQ z n++z
 |0=>by simp[cQ]
 |n+1=>by
  show z++cQ z (n+1)=(z++cQ z n)++z;rw[uC z n,q0q]
theorem yS(z:Array Value):∀n,(List.range (n*z.size)).map (λi=>z[i%z.size]!)=cQ z.toList n
 |0=>by simp[cQ]
 |n+1=>by
  rw[uC,<-yS z n,Nat.succ_mul,List.range_add,q0m,q4e];congr 1;apply List.ext_getElem
  ·simp
  ·intro i a b;have hi:i<z.size:=by simpa using a
   simp[q1p hi,hi]
theorem ji(z:Array Value)(n:Nat):madeCells z (n*z.size)=(cQ z.toList n).toArray:=by
 rw[<-yS];unfold madeCells;apply q2w;simp
def dX(P:Program)(t:TypeId)(len:Nat)(parts:List (Nat×Value)):Option (TypeId×Array Value):=
 match P.underlying t with
 |some (.slice e)=>(match aE P e,cZ P e with
  |some s,some z=>if len*s<=16777216/\z.cells.size=s then(rL (λi=>some (i*s,s)) (cQ z.cells.toList len).toArray parts).map (e,·)else none
  |_,_=>none)
 |_=>none
theorem qJ {P:Program} {t:TypeId} {len:Nat} {parts:Array (Nat×Value)} {e:TypeId} {r:Array Value} (b:dX P t len parts.toList=some (e,r)) {h:Hp} {K:KH}
 (k:K (.slice (some ⟨h.n,0,none⟩) len len) ((h.put h.n (.cells r e (0,0))).to (h.n+1))):iM P (Instr.buildSlice t len parts) h K:=by
 unfold dX at b;split at b
 ·rename_i g l;split at b
  ·rename_i s z m o;split at b
   ·rename_i c;simp only[Z8,q3a]at b;obtain⟨i,p,rfl,rfl⟩:=b;have a:=rM _ _ _ _ p;intro w d;refine⟨_,_,_,?_,d.push _,bO.push _ _,k⟩;obtain⟨c,f⟩:=c;simp only[Instr.buildSlice,Sem.run_bind,run_underlying l,Result.andThen_ok,run_sizeOf m];rw[if_neg (by omega)];rw[<-ji,f]at a;by_cases j:len*s=0
    ·rw[j]at a⊢;have e0:madeCells z.cells 0= #[]:=by simp[madeCells,Array.range_zero']
     rw[e0]at a;simp only[if_true,Sem.run_bind,Sem.run_pure,Result.andThen_ok,Array.range_zero',Array.map_empty];rw[a];simp only[Sem.run_bind,k8 g i d,Result.andThen_ok];rfl
    ·simp only[madeCells]at a;simp only[j,if_false,Sem.run_bind,Sem.run_pure,fG o,Result.andThen_ok];rw[a];simp only[Sem.run_bind,k8 g i d,Result.andThen_ok];rfl
   ·cases b
  ·cases b
 ·cases b
def Jd(P:Program)(op:BinOp)(t:TypeId)(a b:Addr)(h:Hp)(K:Value->Prop):Prop:=
 match op,P.underlying t with
 | .eql,some (.pointer e)=>(∃k,aE P e=some (k+1))/\(a=b∨(∃ca c cb d,h.f a.block=some (.cells ca c (0,0))/\h.f b.block=some (.cells cb d (0,0))))/\K (.bool (decide (a=b)))
 | .neq,some (.pointer e)=>(∃k,aE P e=some (k+1))/\(a=b∨(∃ca c cb d,h.f a.block=some (.cells ca c (0,0))/\h.f b.block=some (.cells cb d (0,0))))/\K (.bool (!decide (a=b)))
 |_,_=>False
def jG(P:Program)(op:BinOp)(t:TypeId)(x y:Value)(h:Hp)(K:Value->Prop):Prop:=
 match x,y with
 | .pointer (some a),.pointer (some b)=>Jd P op t a b h K
 |x,y=>kY P op t x y K
theorem vb{P:Program}{a b:Addr}{w:World}{h:Hp}(hi:Fits w h)(g:a=b∨(∃ca c cb d,h.f a.block=some (.cells ca c (0,0))/\h.f b.block=some (.cells cb d (0,0)))):(sameAddr a b).run P w= .ok (decide (a=b)) w:=by
 by_cases e:a=b
 ·subst e;simp[sameAddr]
 ·obtain⟨ca,c,cb,d,i,j⟩:=g.resolve_left e;rw[run_sameAddr_other w e (hi _ _ i) (hi _ _ j)];simp[e]
theorem Ce{P:Program}{op:BinOp}{t:TypeId}{n o:Operand}{x y:Value}{h:Hp}{K:Value->Prop}(c:jG P op t x y h K):
 PG P (do eqGuard op t n o x y;binOp op t x y) h K:=by
 unfold jG at c;split at c
 ·rename_i a b
  have key:∀{e k},P.underlying t=some (.pointer e)->aE P e=some (k+1)->(a=b∨(∃ca p cb q,h.f a.block=some (.cells ca p (0,0))/\h.f b.block=some (.cells cb q (0,0))))->∀w,Fits w h->(Op.equal t (.pointer (some a)) (.pointer (some b))).run P w= .ok (decide (a=b)) w:=λg i j w l=>by
   have h:∀d,(Op.equalIn (d+1) t (.pointer (some a)) (.pointer (some b))).run P w= .ok (decide (a=b)) w:=λd=>by
    simp[Op.equalIn,run_underlying g,run_sizeOf i,vb l j]
   exact h 9999
  unfold Jd at c;split at c
  ·rename_i e g;obtain⟨⟨k,i⟩,j,m⟩:=c;exact .here (λw l=>by simp[eqGuard,binOp,key g i j w l]) m
  ·rename_i e g;obtain⟨⟨k,i⟩,j,m⟩:=c;exact .here (λw l=>by simp[eqGuard,binOp,key g i j w l]) m
  ·exact c.elim
 ·exact EX c
def bytesOf:List Value->Option (List UInt8)
 | []=>some []
 | .int .u8 n::l=>if 0<=n/\n<256 then(bytesOf l).map (UInt8.ofNat n.toNat::·)else none
 |_=>none
def eQ(s:ByteArray):Array Value:=s.data.map λb=> .int .u8 b.toNat
theorem nf:∀(l:List Value) (bs:List UInt8),bytesOf l=some bs->∃ns:List Int,l=ns.map (Value.int .u8)/\bs=ns.map λn=>UInt8.ofNat n.toNat
 | [],bs,h=>by injection h with h;subst h;exact⟨[],rfl,rfl⟩
 |v::l,bs,h=>by
  unfold bytesOf at h;split at h
  ·injection h with h;subst h;rename_i e;cases e
  ·rename_i n l' e;injection e with b c;subst b c;split at h
   ·simp only[Z8]at h;obtain⟨a,d,rfl⟩:=h;obtain⟨ns,rfl,rfl⟩:=nf l a d;exact⟨n::ns,rfl,rfl⟩
   ·cases h
  ·cases h
def iB(P:Program)(src dst:TypeId)(x:Value)(h:Hp)(K:KH):Prop:=
 match x with
 | .int _ n=>(match P.underlying src,P.underlying dst with
  |some (.int _),some (.int k)=>K (.int k (k.wrap n)) h
  |_,_=>False)
 | .string s=>(match P.underlying src,P.underlying dst with
  |some .string,some .string=>K (.string s) h
  |some .string,some (.slice e)=>P.underlying e=some (.int .u8)/\∀cap,s.size<=cap->
   K (.slice (some ⟨h.n,0,none⟩) s.size cap) ((h.put h.n (.cells (eQ s++Array.replicate (cap-s.size) (.int .u8 0)) e (cap,cap+1))).to (h.n+1))
  |_,_=>False)
 | .slice base len _=>(match P.underlying src,P.underlying dst with
  |some (.slice e),some .string=>P.underlying e=some (.int .u8)/\(match base with
   |none=>K (.string ByteArray.empty) h
   |some ⟨b,o,none⟩=>(match h.f b with
    |some (.cells c _ _)=>(match(cO c o len).bind bytesOf with
     |some bs=>K (.string ⟨bs.toArray⟩) h
     |none=>False)
    |_=>False)
   |_=>False)
  |_,_=>False)
 |_=>False
theorem Is.freeze{w:World}{h:Hp}{b n:Nat}{c:Array Value}{t:TypeId}(hi:Is w h)(e:h.f b=some (.cells c t (0,0))):
 Is (w.freeze ⟨b,n,none⟩ 1) (h.put b (.cells c t (n,n+1))):=by
 have a:=hi.2 b _ e;unfold World.freeze;rw[if_neg (by omega)];refine hi.set e (by simp) ?_ (λx d=>?_)
 ·simp[q4d,a]
 ·have:¬b=x:=λe=>d e.symm
  simp[q4d,this]
theorem Cf{P:Program}{src dst:TypeId}{x:Value}{h:Hp}{K:KH}(a:iB P src dst x h K):iM P (convert src dst x) h K:=by
 unfold iB at a;split at a
 ·rename_i k n;split at a
  ·rename_i F G f g;exact PG.Cd (.here (λw _=>by simp[convert,run_underlying f,run_underlying g,Conv.intToInt]) a)
  ·exact a.elim
 ·rename_i s;split at a
  ·rename_i f g;exact PG.Cd (.here (λw _=>by simp[convert,run_underlying f,run_underlying g]) a)
  ·rename_i e f g;obtain⟨u,a⟩:=a;intro w y
   let cap:=(Question.appendCap s.size 0 e).cut (w.tape w.drawn (.appendCap s.size 0 e))
   have p:s.size<=cap:=q0u _ _
   let j:World:={w with drawn:=w.drawn+1}
   have q:Is j h:=y
   let cells:=eQ s++Array.replicate (cap-s.size) (.int .u8 0)
   have z:cells.size=cap:=by
    have:s.size=s.data.size:=rfl
    simp only[cells,eQ,Array.size_append,Array.size_map,Array.size_replicate];omega
   have r:=q.push (.cells cells e (0,0));have A:=r.freeze (b:=h.n) (n:=cap) (c:=cells) (t:=e) (by simp[Hp.to,Hp.put]);refine⟨.slice (some ⟨h.n,0,none⟩) s.size cap,_,_,?_,A,⟨rfl,rfl,rfl⟩,?_⟩
   ·have d:({j with heap:=j.heap.push (.cells cells e (0,0))}:World).shape? h.n=some (e,cap):=by
     have:=r.2 h.n _ (by simp[Hp.to,Hp.put];rfl);simp only[World.shape?,this,z]
    simp only[convert,Sem.run_bind,run_underlying f,run_underlying g,Result.andThen_ok,run_underlying u,Conv.stringToBytes];rw[show(choose (.appendCap s.size 0 e)).run P w= .ok cap j from by simp[choose,Sem.run,Question.forced];exact⟨rfl,rfl⟩];simp only[Result.andThen_ok];rw[show(s.data.map λb=>Value.int .u8 (b.toNat:Int))=eQ s from rfl];rw[k8 e _ q];simp only[Result.andThen_ok,markStringish,Sem.run_bind];have B:(Go.shape h.n).run P ({j with heap:=j.heap.push (.cells cells e (0,0))}:World)= .ok (some (e,cap)) ({j with heap:=j.heap.push (.cells cells e (0,0))}:World):=by simp only[Go.shape,Sem.run,d]
    rw[B];rfl
   ·have:=a cap p;rw[Lq,Am];exact this
  ·exact a.elim
 ·rename_i base len cap;split at a
  ·rename_i e f g;obtain⟨u,a⟩:=a;split at a
   ·refine PG.Cd (.here (λw _=>?_) a);exact run_convert_bytes_nil w src e f u _ _ dst g
   ·rename_i b o;split at a
    ·rename_i c t fz D;split at a
     ·rename_i bs v;refine PG.Cd (.here (λw y=>?_) a);cases C:cO c o len with
      |none=>rw[C]at v;cases v
      |some l=>
       rw[C]at v;obtain⟨E,rfl,rfl⟩:=nf l bs v;have m:=run_loadCells (P:=P) (w:=w) (λi=>y.cell (i:=i) D) C;rw[run_convert_bytes_string w src dst e _ _ _ f u g,run_bytesToString w _ _ _ E m,foldl_push_bytes];simp[ByteArray.empty,ByteArray.emptyWithCapacity];rfl
     ·exact a.elim
    ·exact a.elim
   ·exact a.elim
  ·exact a.elim
 ·exact a.elim
def bnd(v:Option Value)(d:Int):Option Int:=match v with
 |none=>some d
 |some (.int _ i)=>some i
 |_=>none
def vR(v:Option Value)(h m:Int):Prop:=match v with
 |none=>True
 |some _=>h<=m
def iP(a:Option Addr)(l h m k:Nat):Value:= .slice (if m=l then a else a.map (·.add (l*k))) (h-l) (m-l)
def dz(P:Program)(t:TypeId)(x:Value)(lo hi mx:Option Value)(K:Value->Prop):Prop:=
 match x with
 | .string s=>P.underlying t=some .string/\mx.isSome=false/\(match bnd hi s.size,bnd lo 0 with
  |some h,some l=>0<=l/\l<=h/\h<=s.size/\K (.string (s.extract l.toNat h.toNat))
  |_,_=>False)
 | .slice a len cap=>(match P.underlying t with
  |some (.slice e)=>(match aE P e,bnd mx cap,bnd hi len,bnd lo 0 with
   |some k,some m,some h,some l=>(mx.isSome=true->hi.isSome=true)/\0<=l/\l<=h/\vR hi h m/\m<=(cap:Int)/\K (iP a l.toNat h.toNat m.toNat k)
   |_,_,_,_=>False)
  |_=>False)
 |_=>False
theorem Lr(v:Value)(d:Int):bnd (some v) d=bnd (some v) 0:=by cases v<;>rfl
theorem kN{P:Program}{v:Value}{i:Int}{y:Nat}{code:BoundsCode}{w:World}(hv:bnd (some v) 0=some i)(a:0<=i)(b:i<=(y:Int)):(Instr.sliceBound v y code).run P w= .ok i.toNat w:=by
 unfold bnd at hv;split at hv
 ·rename_i e;cases e
 ·rename_i k j e;injection e with e;injection hv with hv;subst e hv;exact run_sliceBound w k j y code a b
 ·cases hv
theorem vT {P:Program} {q:Bool} {len cap:Nat} {lo hi mx:Option Value} {m h l:Int} {w:World} (c:bnd mx cap=some m) (b:bnd hi len=some h) (a:bnd lo 0=some l)
 (j:mx.isSome=true->hi.isSome=true) (d:0<=l) (k:l<=h) (e:vR hi h m) (n:m<=(cap:Int)):
 (Instr.sliceBounds q len cap lo hi mx).run P w= .ok (l.toNat,h.toNat,m.toNat) w:=by
 unfold Instr.sliceBounds;cases mx with
 |none=>
  injection c with c;subst c;cases hi with
  |none=>
   injection b with b;subst b;cases lo with
   |none=>injection a with a;subst a;simp
   |some v=>
    simp only[Sem.run_bind,Sem.run_pure,Result.andThen_ok];rw[kN (i:=l) a d k];simp
  |some u=>
   have f:bnd (some u) 0=some h:=by rw[<-b];exact(Lr _ _).symm
   simp only[vR]at e;simp only[Sem.run_bind,Sem.run_pure,Result.andThen_ok];rw[kN f (by omega) e];cases lo with
   |none=>injection a with a;subst a;simp
   |some v=>
    simp only[Result.andThen_ok,Sem.run_bind,Sem.run_pure];rw[kN (i:=l) a d (by omega)];simp
 |some x=>
  cases hi with
  |none=>simp at j
  |some u=>
   have f:bnd (some u) 0=some h:=by rw[<-b];exact(Lr _ _).symm
   have g:bnd (some x) 0=some m:=by rw[<-c];exact(Lr _ _).symm
   simp only[vR]at e;simp only[Sem.run_bind,Sem.run_pure,Result.andThen_ok];rw[kN g (by omega) n];simp only[Result.andThen_ok,Sem.run_bind,Sem.run_pure];rw[kN f (by omega) (by omega)];cases lo with
   |none=>injection a with a;subst a;simp
   |some v=>
    simp only[Result.andThen_ok,Sem.run_bind,Sem.run_pure];rw[kN (i:=l) a d (by omega)];simp
theorem Ar{P:Program}{t:TypeId}{x:Value}{lo hi mx:Option Value}{h:Hp}{K:Value->Prop}(b:dz P t x lo hi mx K):PG P (Instr.sliceAt t x lo hi mx) h K:=by
 unfold dz at b;split at b
 ·rename_i s;obtain⟨c,d,b⟩:=b;split at b
  ·rename_i n l f g;obtain⟨i,j,o,b⟩:=b;refine .here (λw _=>?_) b;have:=vT (P:=P) (q:=false) (len:=s.size) (cap:=s.size) (lo:=lo) (hi:=hi) (mx:=none) (m:=s.size) (h:=n) (l:=l) (w:=w) rfl f g (by simp) i j (by unfold vR;split<;>trivial) (Int.le_refl _)
   simp[Instr.sliceAt,run_underlying c,Instr.slice,d,this]
  ·exact b.elim
 ·rename_i a len cap;split at b
  ·rename_i e c;split at b
   ·rename_i k m n l p e0 f g;obtain⟨r,i,j,o,u,b⟩:=b;refine .here (λw _=>?_) b;have:=vT (P:=P) (q:=true) (w:=w) e0 f g r i j o u;simp[Instr.sliceAt,run_underlying c,Instr.slice,this,run_sizeOf p,iP]
   ·exact b.elim
  ·exact b.elim
 ·exact b.elim
def vU(P:Program)(t:TypeId)(len cap:Value)(h:Hp)(K:KH):Prop:=
 match len,cap with
 | .int _ l,.int _ c=>(match P.underlying t with
  |some (.slice e)=>(match aE P e,kq P e,cZ P e with
   |some k,some a,some z=>0<=l/\l<=c/\(a:Int)*c<=281474976710656/\c<=9223372036854775807/\
    K (.slice (some ⟨h.n,0,none⟩) l.toNat c.toNat) ((h.put h.n (.cells (madeCells z.cells (c.toNat*k)) e (0,0))).to (h.n+1))
   |_,_,_=>False)
  |_=>False)
 |_,_=>False
theorem Cg{P:Program}{t:TypeId}{k b:Nat}{z:Value}(a:aE P t=some k)(c:kq P t=some b)(d:cZ P t=some z):∃i:TypeInfo,P.info? t=some i/\i.size=k/\i.bytes=b/\i.zero=some z:=by
 unfold aE at a;unfold kq at c;unfold cZ at d;cases e:P.info? t with
 |none=>simp[e]at a
 |some i=>simp[e]at a c d;exact⟨i,rfl,a,c,d⟩
theorem Ch{P:Program}{t:TypeId}{len cap:Value}{h:Hp}{K:KH}(a:vU P t len cap h K):iM P (Instr.makeSlice t len cap) h K:=by
 unfold vU at a;split at a
 ·rename_i d l f c;split at a
  ·rename_i e g;split at a
   ·rename_i k j z m n o;obtain⟨p,q,r,s,a⟩:=a;intro w b;refine⟨_,_,_,?_,b.push _,bO.push _ _,a⟩;obtain⟨i,u,v,x,y⟩:=Cg m n o;have:=run_make (P:=P) w t e i z g u y d f l c p q (by rw[x];exact r) s;rw[v,b.1]at this;exact this
   ·exact a.elim
  ·exact a.elim
 ·exact a.elim
def bY(h:Hp)(k:Nat)(x:Value):Option (Nat×List Value):=
 match x with
 | .slice none n _=>some (n,[])
 | .slice (some ⟨b,o,none⟩) n _=>(match h.f b with
  |some (.cells c _ _)=>(cO c o (n*k)).map (n,·)
  |_=>(match n with
   |0=>some (0,[])
   |_+1=>none))
 | .slice (some ⟨_,_,some _⟩) 0 _=>some (0,[])
 | .string s=>some (s.size,(eQ s).toList)
 |_=>none
theorem As{P:Program}{h:Hp}{k n:Nat}{x:Value}{l:List Value}(e:bY h k x=some (n,l))(w:World):(Builtin.lenOf x).run P w= .ok n w:=by
 unfold bY at e;split at e
 ·injection e with e;injection e with e1 e2;subst e1;simp[Builtin.lenOf]
 ·split at e
  ·simp only[Z8,q3a]at e;obtain⟨_,_,rfl,_⟩:=e;simp[Builtin.lenOf]
  ·split at e
   ·injection e with e;injection e with e1 e2;subst e1;simp[Builtin.lenOf]
   ·cases e
 ·injection e with e;injection e with e1 e2;subst e1;simp[Builtin.lenOf]
 ·injection e with e;injection e with e1 e2;subst e1;simp[Builtin.lenOf]
 ·cases e
theorem ng{P:Program}{h:Hp}{k n:Nat}{x:Value}{l:List Value}(e:bY h k x=some (n,l)){w:World}(hi:Is w h):(Builtin.firstCells k n x).run P w= .ok l.toArray w:=by
 unfold bY at e;split at e
 ·injection e with e;injection e with a b;subst a b;simp[Builtin.firstCells]
 ·split at e
  ·rename_i c t fz d;simp only[Z8,q3a]at e;obtain⟨g,f,rfl,rfl⟩:=e;exact run_loadCells (P:=P) (w:=w) (λi=>hi.cell (i:=i) d) f
  ·split at e
   ·injection e with e;injection e with a b;subst a b;simp[Builtin.firstCells,loadCells,loadCellsFrom]
   ·cases e
 ·injection e with e;injection e with a b;subst a b;simp[Builtin.firstCells,loadCells,loadCellsFrom]
 ·rename_i s;injection e with e;injection e with a b;subst a b
  have:s.extract 0 s.size=s:=by
   obtain⟨⟨l⟩⟩:=s;rw[show(ByteArray.mk ⟨l⟩).size=l.length from rfl];exact(ByteArray.extract_mk l 0 l.length).trans (by simp)
  simp only[Builtin.firstCells,eQ,this,Sem.run_pure]
 ·cases e
theorem yT(a:Nat):∀(r c:Nat),Builtin.growBy a r c<=max c (a+(a+768)/4)
 |0,c=>by simp[Builtin.growBy];omega
 |r+1,c=>by
  simp only[Builtin.growBy];split
  ·omega
  ·have:=yT a r (c+(c+768)/4);omega
theorem EY(a cap:Nat)(h:cap<a):Builtin.nextslicecap a cap<=2*a:=by
 unfold Builtin.nextslicecap;split
 ·omega
 ·split
  ·omega
  ·have:=yT a 4 cap;omega
def G1(e:TypeId)(z:Value)(a:Nat)(old new:List Value)(h:Hp)(K:KH):Prop:=
 ∀cap,a<=cap->K (.slice (some ⟨h.n,0,none⟩) a cap) ((h.put h.n (.cells (old++(new++cQ z.cells.toList (cap-a))).toArray e (0,0))).to (h.n+1))
def uD(base:Option Addr)(k a n ke:Nat)(new:List Value)(h:Hp)(K:KH):Prop:=
 match base with
 |none=>K (.slice none (a+n) ke) h
 |some ⟨b,o,none⟩=>(match h.f b with
  |some (.cells c e fz)=>new.all Value.oneCell'=true/\o+a*k+new.length<=c.size/\rI fz (o+a*k) new.length/\
   K (.slice (some ⟨b,o,none⟩) (a+n) ke) (h.put b (.cells (eu c (o+a*k) new) e fz))
  |_=>False)
 |_=>False
def iQ(P:Program)(t d:TypeId)(s x:Value)(h:Hp)(K:KH):Prop:=
 match s with
 | .slice base a ke=>∃e c k b z n new,P.underlying t=some (.slice e)/\P.underlying d=some c/\(∀q,c≠ .int q)/\aE P e=some k/\kq P e=some b/\cZ P e=some z/\
  z.cells.size=k/\0<b/\bY h k x=some (n,new)/\
  (a+n<=ke->uD base k a n ke new h K)/\
  (ke<a+n->(a+n)*b<=140737488355328/\∃old,bY h k s=some (a,old)/\G1 e z (a+n) old new h K)
 |_=>False
theorem yD{P:Program}{t W ty:TypeId}{s x:Value}{h:Hp}{K:KH}(E:iQ P t W s x h K):iM P (Builtin.append_ #[t,W] ty #[s,x]) h K:=by
 unfold iQ at E;split at E
 ·rename_i base a ke;obtain⟨e,J,k,Z,z,n,new,L,M,q,F,hb,X,hzs,hb0,g,N,y⟩:=E;obtain⟨i,e1,e2,e3,e4⟩:=Cg F hb X;intro w G;have hlen:=As (P:=P) g w;have f:=ng (P:=P) g G;by_cases l:a+n<=ke
  ·have d:=N l;unfold uD at d;split at d
   ·refine⟨_,w,h,?_,G,bO.refl w,d⟩;simp only[Builtin.append_];simp[run_underlying L,run_underlying M,run_sizeOf F];cases J<;>first|(exact(q _ rfl).elim)|simp[hlen,l,f]
   ·rename_i b o;split at d
    ·rename_i c e' fz hc;obtain⟨h1,H,h3,d⟩:=d;obtain⟨A,hr,O,r⟩:=iL (P:=P) new w h c (o+a*k) 0 (λv hv=>q0a.1 h1 v hv) (by simpa using H) (by simpa using h3) G hc;refine⟨_,A,_,?_,O,r,by simpa using d⟩;simp only[Builtin.append_];simp[run_underlying L,run_underlying M,run_sizeOf F];cases J<;>first|(exact(q _ rfl).elim)|simp[hlen,l,f,kX,hr]
    ·exact d.elim
   ·exact d.elim
  ·obtain⟨hby,old,ho,hg⟩:=y (by omega);obtain⟨cap,B⟩:∃cap,(Question.appendCap (a+n) ke e).cut (w.tape w.drawn (.appendCap (a+n) ke e))=cap:=⟨_,rfl⟩;have C:a+n<=cap:=by rw[<-B];exact q0u _ _
   have p:Is w.drew h:=G;have Q:(Question.appendCap (a+n) ke e).forced=false:=rfl
   have j:=ng (P:=P) g p;have u:=ng (P:=P) ho p;refine⟨_,_,_,?_,p.push _,⟨rfl,rfl,rfl⟩,hg cap C⟩;have R:¬(a+n<=ke):=l
   have hn2:¬((((a+n:Nat):Int)>IntKind.i64.max)/\(False∨i.bytes=0)):=by
    intro I;rcases I.2 with I|I
    ·exact I
    ·omega
   have Y:Builtin.nextslicecap (a+n) ke*i.bytes<=281474976710656:=by
    have:=EY (a+n) ke (by omega);have H:=q1h i.bytes this;rw[e3]at H⊢;rw[Nat.mul_assoc]at H;omega
   have D:∀m,(askRoom m).run P w.drew= .ok () w.drew:=λm=>by unfold askRoom;split<;>simp[mark,Sem.run]
   have S:Builtin.zeroCells z.cells (cap-(a+n))=(cQ z.cells.toList (cap-(a+n))).toArray:=by
    rw[<-ji];rfl
   have T:∀A,(typeInfo e).run P A= .ok i A:=λA=>by simp[typeInfo,e1]
   have U:¬(i.bytes=0):=by omega
   have V:¬(281474976710656<Builtin.nextslicecap (a+n) ke*i.bytes):=by omega
   simp only[Builtin.append_];simp[run_underlying L,run_underlying M,run_sizeOf F]
   cases J<;>first
    |(exact(q _ rfl).elim)
    |(simp[hlen,R,T,U,V,Q,B,D,j,u,fG X,S]
      rw[k8 e _ p];simp)
 ·exact E.elim
def k9(h:Hp)(k n:Nat)(x:Value):Option (List Value):=
 match x with
 | .slice none _ _=>some []
 | .slice (some ⟨b,o,none⟩) _ _=>(match h.f b with
  |some (.cells c _ _)=>cO c o (n*k)
  |_=>none)
 | .string s=>some ((s.toList.take n).map λb=> .int .u8 b.toNat)
 |_=>none
def Lt:Value->Option Nat
 | .slice _ n _=>some n
 | .string s=>some s.size
 |_=>none
def ot(P:Program)(t:TypeId)(d x:Value)(h:Hp)(K:KH):Prop:=
 match d with
 | .slice base a _=>(match P.underlying t,Lt x with
  |some (.slice e),some m=>(match aE P e with
   |some k=>(match k9 h k (min m a) x with
    |some l=>(match base with
     |none=>K (.int .i64 (min m a:Nat)) h
     |some ⟨b,o,none⟩=>(match h.f b with
      |some (.cells c g fz)=>l.all Value.oneCell'=true/\o+l.length<=c.size/\rI fz o l.length/\K (.int .i64 (min m a:Nat)) (h.put b (.cells (eu c o l) g fz))
      |_=>False)
     |_=>False)
    |none=>False)
   |none=>False)
  |_,_=>False)
 |_=>False
theorem vV{P:Program}{h:Hp}{k n:Nat}{x:Value}{l:List Value}(e:k9 h k n x=some l){w:World}(hi:Fits w h):(Builtin.firstCells k n x).run P w= .ok l.toArray w:=by
 unfold k9 at e;split at e
 ·injection e with e;subst e;simp[Builtin.firstCells]
 ·split at e
  ·rename_i c t fz a;exact run_loadCells (P:=P) (w:=w) (λi=>hi.cell (i:=i) a) e
  ·cases e
 ·rename_i s;injection e with e;subst e;obtain⟨⟨l⟩⟩:=s;have b:(ByteArray.mk ⟨l⟩).extract 0 n=ByteArray.mk (l.take n).toArray:=(ByteArray.extract_mk l 0 n).trans (by simp);have d:(ByteArray.mk ⟨l⟩).toList=l:=ByteArray.toList_mk l;simp only[Builtin.firstCells,b,d,Sem.run_pure];congr 1;apply q2w;simp
 ·cases e
theorem Ci{P:Program}{t:TypeId}{p:Array TypeId}{ty:TypeId}{d x:Value}{h:Hp}{K:KH}(s:p[0]?=some t)(a:ot P t d x h K):iM P (Builtin.copy_ p ty #[d,x]) h K:=by
 unfold ot at a;split at a
 ·rename_i base f u;split at a
  ·rename_i e m y n
   have g:∀w,(Builtin.lenOf x).run P w= .ok m w:=λw=>by
    unfold Lt at n;split at n<;>first|(injection n with n;subst n;simp[Builtin.lenOf])|cases n
   split at a
   ·rename_i k z;split at a
    ·rename_i l A;split at a
     ·refine PG.Cd (.here (λw q=>?_) a);have i:=vV (P:=P) A q;simp[Builtin.copy_,s,run_underlying y,g,run_sizeOf z,show Nat.min m f=min m f from rfl,i,goInt]
     ·rename_i b o;split at a
      ·rename_i c I fz B;obtain⟨C,D,E,a⟩:=a;intro w q;obtain⟨F,G,r,j⟩:=iL (P:=P) l w h c o 0 (λv H=>q0a.1 C v H) (by simpa using D) (by simpa using E) q B;refine⟨_,F,_,?_,r,j,by simpa using a⟩;have i:=vV (P:=P) A q.fits;simp[Builtin.copy_,s,run_underlying y,g,run_sizeOf z,show Nat.min m f=min m f from rfl,i,G,goInt]
      ·exact a.elim
     ·exact a.elim
    ·exact a.elim
   ·exact a.elim
  ·exact a.elim
 ·exact a.elim
def mA(P:Program)(t:TypeId)(x:Value)(h:Hp)(K:Value->Prop):Prop:=
 match P.underlying t,x with
 |some .string,.string s=>K (.int .i64 s.size)
 |some (.slice _),.slice _ n _=>K (.int .i64 n)
 |some (.array n _),_=>K (.int .i64 n)
 |some (.map _ _),.map none=>K (.int .i64 0)
 |some (.map _ _),.map (some r)=>(match h.f r with
  |some (.map es _)=>K (.int .i64 es.size)
  |_=>False)
 |_,_=>False
theorem la{P:Program}{w:World}{h:Hp}(hi:Fits w h){r:Nat}{es:Array MapEntry}{cl:Nat}(e:h.f r=some (.map es cl)):(getObj r).run P w= .ok (.map es cl) w:=by
 have a:=hi r _ e;simp[getObj,Sem.run,a]
theorem EZ{P:Program}{t ty:TypeId}{x:Value}{h:Hp}{K:Value->Prop}(b:mA P t x h K):PG P (Builtin.len_ #[t] ty #[x]) h K:=by
 unfold mA at b;split at b
 ·rename_i s d;exact .here (λw _=>by simp[Builtin.len_,run_underlying d,goInt]) b
 ·rename_i e a n c d;exact .here (λw _=>by simp[Builtin.len_,run_underlying d,goInt]) b
 ·rename_i n e d;exact .here (λw _=>by simp[Builtin.len_,run_underlying d,goInt]) b
 ·rename_i k e d;exact .here (λw _=>by simp[Builtin.len_,run_underlying d,goInt]) b
 ·rename_i k e r d;split at b
  ·rename_i es cl f;exact .here (λw g=>by simp only[Builtin.len_];simp[run_underlying d,goInt,la g f]) b
  ·exact b.elim
 ·exact b.elim
def cH(mx:Bool)(x y:Value)(K:Value->Prop):Prop:=
 match x,y with
 | .int k a,.int _ b=>K (.int k (if mx then max a b else min a b))
 |_,_=>False
theorem E0{P:Program}{d:Array TypeId}{ty:TypeId}{x y:Value}{h:Hp}{K:Value->Prop}(c:cH false x y K):PG P (Builtin.min_ d ty #[x,y]) h K:=by
 unfold cH at c;split at c
 ·rename_i k a e b;refine .here (λw _=>?_) c;have:(if b<a then b else a)=min a b:=by omega
  simp[Builtin.min_,Builtin.min2,this]
 ·exact c.elim
theorem E1{P:Program}{d:Array TypeId}{ty:TypeId}{x y:Value}{h:Hp}{K:Value->Prop}(c:cH true x y K):PG P (Builtin.max_ d ty #[x,y]) h K:=by
 unfold cH at c;split at c
 ·rename_i k a e b;refine .here (λw _=>?_) c;have:(if b>a then b else a)=max a b:=by omega
  simp[Builtin.max_,Builtin.max2,this]
 ·exact c.elim
theorem Cj{P:Program}{g:Array TypeId}{ty:TypeId}{x y z:Value}{h:Hp}{K:Value->Prop}(f:cH false x y λu=>cH false u z K):PG P (Builtin.min_ g ty #[x,y,z]) h K:=by
 unfold cH at f;split at f
 ·rename_i k a o b;split at f
  ·rename_i u v d c q e i;injection i with j l;subst j;refine .here (λw _=>?_) f;have m:(if b<a then b else a)=c:=by rw[<-l];simp only[q2b,if_false];omega
   have n:(if e<c then e else c)=min c e:=by omega
   simp[Builtin.min_,Builtin.min2,m,n]
  ·exact f.elim
 ·exact f.elim
theorem Ck{P:Program}{g:Array TypeId}{ty:TypeId}{x y z:Value}{h:Hp}{K:Value->Prop}(f:cH true x y λu=>cH true u z K):PG P (Builtin.max_ g ty #[x,y,z]) h K:=by
 unfold cH at f;split at f
 ·rename_i k a r b;split at f
  ·rename_i u v d c q e l;injection l with m n;subst m;refine .here (λw _=>?_) f;have o:(if b>a then b else a)=c:=by rw[<-n];simp only[if_true];omega
   have p:(if e>c then e else c)=max c e:=by omega
   have i:(if a<b then b else a)=c:=o;have j:(if c<e then e else c)=max c e:=p;simp[Builtin.max_,Builtin.max2,i,j]
  ·exact f.elim
 ·exact f.elim
def cI:TypeDesc->Bool
 | .int _=>true
 | .string=>true
 |_=>false
def kh(a:Array Field):List (Nat×Nat):=a.toList.map λf=>(1,f.offset)
def Au(P:Program)(a:TypeId):TypeDesc->Bool
 | .struct b=>decide (iN P a=some (kh b))
 |_=>false
def tA(P:Program)(b:TypeId)(a:TypeDesc):Prop:=(cI a||Au P b a)=true
def dM(P:Program)(t:TypeId):Option (TypeId×TypeDesc×TypeId):=match P.underlying t with
 |some (.map a c)=>(match P.underlying a with
  |some b=>if(cI b||Au P a b)=true then some (a,b,c)else none
  |none=>none)
 |_=>none
theorem nh{P:Program}{t c e:TypeId}{d:TypeDesc}(h:dM P t=some (c,d,e)):P.underlying t=some (.map c e)/\P.underlying c=some d/\tA P c d:=by
 unfold dM at h;split at h
 ·rename_i a b f;split at h
  ·rename_i k g;split at h
   ·rename_i i;simp only[q1z,q3a]at h;obtain⟨rfl,rfl,rfl⟩:=h;exact⟨f,g,i⟩
   ·cases h
  ·cases h
 ·cases h
def rN:TypeDesc->Value->Bool
 | .struct a,.agg xs=>(cP xs xs (kh a)).isSome
 | .struct _,_=>false
 |_,_=>true
def ou(a:TypeDesc)(k v:Value):Option Bool:=match a,k,v with
 | .struct c,.agg xs,.agg b=>(match cP xs b (kh c)with
  |some true=>if Instr.sameBits 10000 (.agg b) (.agg xs)=true then some true else none
  |some false=>some false
  |none=>none)
 |a,k,v=>Instr.sameNow a k v
theorem qq{P:Program}{b:TypeId}{a:TypeDesc}(c:P.underlying b=some a)(d:cI a=true)(q:Bool)(v:Value)(w:World)(n:Nat):(Instr.checkKey q (n+1) b v).run P w= .ok () w:=by
 simp only[Instr.checkKey,Sem.run_bind,run_underlying c,Result.andThen_ok];cases a<;>first|(simp[cI]at d;done)|simp
theorem lJ{xs j:Array Value}:∀{l:List (Nat×Nat)} {q:Bool},cP xs j l=some q->∃g,cP xs xs l=some g
 | [],q,h=>⟨true,rfl⟩
 |(k,o)::l,q,h=>by
  unfold cP at h⊢;split at h
  ·rename_i m a n b c i;split at h
   ·rename_i d;simp only[Z8]at h;obtain⟨r,e,_⟩:=h;obtain⟨g,f⟩:=lJ e;simp only[c,d.1,true_and,if_true,f];exact⟨_,rfl⟩
   ·cases h
  ·rename_i a b c i;split at h
   ·rename_i d;simp only[Z8]at h;obtain⟨r,e,_⟩:=h;obtain⟨g,f⟩:=lJ e
    (try simp only[c,d,if_true,f])
    exact⟨_,rfl⟩
   ·cases h
  ·rename_i a b c i;split at h
   ·rename_i d;simp only[Z8]at h;obtain⟨r,e,_⟩:=h;obtain⟨g,f⟩:=lJ e
    (try simp only[c,d,if_true,f])
    exact⟨_,rfl⟩
   ·cases h
  ·cases h
theorem Cl{b:TypeDesc}{k v:Value}{q:Bool}(h:ou b k v=some q):rN b k=true:=by
 unfold ou at h;split at h
 ·rename_i a xs c;show(cP xs xs (kh a)).isSome=true;cases e:cP xs c (kh a)with
  |none=>rw[e]at h;cases h
  |some r=>
   obtain⟨g,d⟩:=lJ e;rw[d];rfl
 ·rename_i f;unfold rN;split
  ·rename_i a xs;unfold Instr.sameNow at h;split at h<;>first|cases h|skip
   all_goals simp_all
  ·unfold Instr.sameNow at h;split at h<;>first|cases h|skip
   all_goals simp_all
  ·rfl
def gQ(a:TypeDesc)(k:Value):List MapEntry->Nat->Option (Option (Nat×Value))
 | [],_=>(match rN a k with
  |true=>some none
  |false=>none)
 |e::es,i=>(match ou a k e.key with
  |some true=>some (some (i,e.val))
  |some false=>gQ a k es (i+1)
  |none=>none)
theorem ow{b:TypeDesc}{k:Value}:∀{l:List MapEntry} {i:Nat} {r:Option (Nat×Value)},gQ b k l i=some r->rN b k=true
 | [],i,r,h=>by
  unfold gQ at h;split at h
  ·assumption
  ·cases h
 |e::es,i,r,h=>by
  unfold gQ at h;split at h
  ·rename_i a;exact Cl a
  ·rename_i a;exact Cl a
  ·cases h
theorem oz{a:TypeDesc}(b:cI a=true)(k v:Value):ou a k v=Instr.sameNow a k v:=by
 cases a<;>first|(simp[cI]at b;done)|rfl
theorem Je{a:TypeDesc}(b:cI a=true)(k:Value):rN a k=true:=by
 cases a<;>first|(simp[cI]at b;done)|rfl
theorem Cm{a:TypeDesc}(b:cI a=true)(k:Value):∀(l:List MapEntry) (i:Nat),Instr.findNow a k l i=gQ a k l i
 | [],_=>by simp only[Instr.findNow,gQ,Je b]
 |e::es,i=>by
  simp only[Instr.findNow,gQ,oz b];cases Instr.sameNow a k e.key with
  |none=>rfl
  |some q=>
   cases q
   ·exact Cm b k es (i+1)
   ·rfl
theorem tA.str{P:Program}{b:TypeId}{a:TypeDesc}(h:tA P b a)(d:¬cI a=true):∃c,a= .struct c/\iN P b=some (kh c):=by
 unfold tA at h;rw[show cI a=false by simpa using d,Bool.false_or]at h;unfold Au at h;split at h
 ·exact⟨_,rfl,of_decide_eq_true h⟩
 ·cases h
theorem uE{P:Program}{t:TypeId}{l:List (Nat×Nat)}(h:iN P t=some l):∃a,P.underlying t=some (.struct a)/\P.stoodInHeld t=false/\gW P a.toList=some l:=by
 unfold iN at h;split at h
 ·rename_i a b;split at h
  ·rename_i c;exact⟨a,b,c.1,h⟩
  ·cases h
 ·cases h
theorem Cn{P:Program}{q:Bool}{xs:Array Value}(n:Nat)(w:World):∀(i:List Field) (l:List (Nat×Nat)) (r:Bool),gW P i=some l->cP xs xs l=some r->
 (forIn i () λf (_:Unit)=>(do
  if f.name≠ "_" then do
   let a<-part f.type xs f.offset
   Instr.checkKey q (n+1) f.type a
   pure (ForInStep.yield ())
  else pure (ForInStep.yield ()):Sem (ForInStep Unit))).run P w= .ok () w:=by
 intro i
 induction i with
 |nil=>intro l r _ _;rfl
 |cons f i v=>
  intro l r h c;rw[List.forIn_cons];unfold gW at h;split at h
  ·rename_i u;rw[if_neg (by simp[u])];simp only[Sem.run_bind,Sem.run_pure,Result.andThen_ok];exact v l r h c
  ·rename_i u;rw[if_pos u];split at h
   ·rename_i x
    have e:∀(k:Nat) (s:TypeDesc),cI s=true∨s= .bool->P.underlying f.type=some s->(gW P i).map ((k,f.offset)::·)=some l->(do
     let a<-part f.type xs f.offset
     Instr.checkKey q (n+1) f.type a
     pure (ForInStep.yield ()):Sem (ForInStep Unit)).run P w= .ok (.yield ()) w/\(∃g d,gW P i=some g/\cP xs xs g=some d):=λk s m j h=>by
     simp only[Z8]at h;obtain⟨g,y,rfl⟩:=h
     have:∃a d,xs[f.offset]?=some a/\cP xs xs g=some d:=by
      unfold cP at c;split at c
      ·rename_i E a F b o t;split at c
       ·simp only[Z8]at c;obtain⟨d,p,_⟩:=c;exact⟨_,d,o,p⟩
       ·cases c
      ·rename_i a b o t;split at c
       ·simp only[Z8]at c;obtain⟨d,p,_⟩:=c;exact⟨_,d,o,p⟩
       ·cases c
      ·rename_i a b o t;split at c
       ·simp only[Z8]at c;obtain⟨d,p,_⟩:=c;exact⟨_,d,o,p⟩
       ·cases c
      ·cases c
     obtain⟨a,d,o,t⟩:=this;refine⟨?_,g,d,y,t⟩;have z:(part f.type xs f.offset).run P w= .ok a w:=by simp[part,jg x,o]
     have A:(Instr.checkKey q (n+1) f.type a).run P w= .ok () w:=by
      rcases m with m|rfl
      ·exact qq j m q a w n
      ·simp only[Instr.checkKey,Sem.run_bind,run_underlying j,Result.andThen_ok];simp
     simp only[Sem.run_bind,z,A,Result.andThen_ok,Sem.run_pure]
    have all:(do
     let a<-part f.type xs f.offset
     Instr.checkKey q (n+1) f.type a
     pure (ForInStep.yield ()):Sem (ForInStep Unit)).run P w= .ok (.yield ()) w/\(∃g d,gW P i=some g/\cP xs xs g=some d):=by
     split at h
     ·rename_i G j;exact e 0 _ (.inl rfl) j h
     ·rename_i j;exact e 1 _ (.inl rfl) j h
     ·rename_i j;exact e 2 _ (.inr rfl) j h
     ·cases h
    obtain⟨B,g,d,C,D⟩:=all;rw[Sem.run_bind,B,Result.andThen_ok];exact v g d C D
   ·cases h
theorem run_checkKey{P:Program}{b:TypeId}{c:TypeDesc}(d:P.underlying b=some c)(f:tA P b c)(q:Bool){v:Value}(hv:rN c v=true)(w:World):(Instr.checkKey q 10000 b v).run P w= .ok () w:=by
 by_cases h:cI c=true
 ·exact qq d h q v w 9999
 obtain⟨e,rfl,g⟩:=f.str h;obtain⟨i,a,j,k⟩:=uE g;rw[d]at a;injection a with a;injection a with a;subst a;cases v with
 |agg xs=>
  obtain⟨r,l⟩:=q0n.1 (show(cP xs xs (kh e)).isSome=true from hv)
  have o:∀m n,m=n+1->(Instr.checkKey q (m+1) b (.agg xs)).run P w= .ok () w:=λm n p=>by
   have:=Cn (q:=q) n w e.toList (kh e) r k l;rw[<-p]at this;simp only[Instr.checkKey,Sem.run_bind,run_underlying d,Result.andThen_ok,<-Array.forIn_toList]
   erw[this]
   rfl
  exact o 9999 9998 rfl
 |_=>simp[rN]at hv
theorem qK{P:Program}{b:TypeId}{c:Array Field}(g:P.underlying b=some (.struct c))(s:iN P b=some (kh c)){k:Value}:∀{l:List MapEntry} {i:Nat} {r:Option (Nat×Value)},gQ (.struct c) k l i=some r->∀w,(Instr.findAsking b k l i).run P w= .ok r w
 | [],i,r,h,w=>by
  unfold gQ at h;split at h
  ·injection h with h;subst h;rfl
  ·cases h
 |e::es,i,r,h,w=>by
  have step:∀q,ou (.struct c) k e.key=some q->(Op.equal b k e.key).run P w= .ok q w:=λq a=>by
   unfold ou at a;split at a
   ·rename_i z u xs j n v;injection n with n;subst n;rw[v];obtain⟨x,d,o,y⟩:=uE s;rw[g]at d;injection d with d;injection d with d;subst d
    have key:∀m,cP xs j (kh c)=some m->(Op.equal b (.agg xs) (.agg j)).run P w= .ok m w:=λm f=>by
     have t:P.fieldsOf b=c:=by simp[Program.fieldsOf,g]
     show(Op.equalIn 10000 b (.agg xs) (.agg j)).run P w=_;rw[run_equalIn_struct w 9999 b xs j (by rw[t];exact g) o,t];exact jA 9998 _ _ m y f w
    split at a
    ·rename_i f;split at a
     ·injection a with a;subst a;exact key _ f
     ·cases a
    ·rename_i f;injection a with a;subst a;exact key _ f
    ·cases a
   ·unfold Instr.sameNow at a;split at a<;>first|cases a|skip
    all_goals simp_all
  unfold gQ at h;simp only[Instr.findAsking,Sem.run_bind];split at h
  ·rename_i p;injection h with h;subst h;simp[step _ p]
  ·rename_i p;simp only[step _ p,Result.andThen_ok];simpa using qK g s h w
  ·cases h
theorem run_findKey{P:Program}{d:TypeId}{b:TypeDesc}(c:P.underlying d=some b)(g:tA P d b){k:Value}{l:List MapEntry}{r:Option (Nat×Value)}(h:gQ b k l 0=some r)(w:World):(Instr.findKey d k l).run P w= .ok r w:=by
 by_cases a:cI b=true
 ·simp only[Instr.findKey,Sem.run_bind,run_underlying c,Result.andThen_ok,Cm a,h];rfl
 obtain⟨i,rfl,f⟩:=g.str a;simp only[Instr.findKey,Sem.run_bind,run_underlying c,Result.andThen_ok];cases l with
 |nil=>
  have:=qK c f h w;simp only[Instr.findAsking]at this;simp only[Instr.findNow];exact this
 |cons e es=>
  have:Instr.findNow (.struct i) k (e::es) 0=none:=by simp[Instr.findNow,Instr.sameNow]
  rw[this];exact qK c f h w
def tB(h:Hp)(m:Value):Option (List MapEntry):=match m with
 | .map none=>some []
 | .map (some r)=>(match h.f r with
  |some (.map es _)=>some es.toList
  |_=>none)
 |_=>none
def found(z:Option Value)(ok:Bool)(r:Option (Nat×Value)):Option Value:=match r with
 |some (_,v)=>some (if ok then .tuple #[v,.bool true]else v)
 |none=>z.map λz=>if ok then .tuple #[z,.bool false]else z
def ky(P:Program)(t:TypeId)(m k:Value)(ok:Bool)(h:Hp):Option Value:=
 (dM P t).bind λx=>(tB h m).bind λl=>(gQ x.2.1 k l 0).bind λr=>found (cZ P x.2.2) ok r
def fO(P:Program)(t:TypeId)(m k:Value)(ok:Bool)(h:Hp)(K:Value->Prop):Prop:=match ky P t m k ok h with
 |some v=>K v
 |none=>False
theorem yE{P:Program}{t:TypeId}{m k:Value}{ok:Bool}{h:Hp}{K:Value->Prop}(d:fO P t m k ok h K):PG P (Instr.lookup t m k ok) h K:=by
 unfold fO at d;split at d
 ·rename_i v g;refine .here (λw o=>?_) d;simp only[ky,q2a]at g;obtain⟨⟨i,y,p⟩,q,l,a,r,e,b⟩:=g;obtain⟨j,c,n⟩:=nh q;dsimp only at e b
  have fin:∀es:Array MapEntry,es.toList=l->((do
   Instr.checkKey es.isEmpty 10000 i k
   match<-Instr.findKey i k es.toList with
    |some (_,v)=>do
     let x<-pure (v,true)
     pure (if ok then .tuple #[x.1,.bool x.2]else x.1)
    |none=>do
     let z<-zeroValue p
     let x<-pure (z,false)
     pure (if ok then .tuple #[x.1,.bool x.2]else x.1)):Sem Value).run P w= .ok v w:=by
   intro es f;subst f;simp only[run_checkKey c n _ (ow e),Result.andThen_ok,run_findKey c n e,Sem.run_bind];unfold found at b;split at b
   ·injection b with b;subst b;simp
   ·simp only[Z8]at b;obtain⟨z,s,rfl⟩:=b;simp[fG s]
  unfold tB at a;split at a
  ·injection a with a;have:=fin #[] (by simpa using a);simp only[Sem.run_bind]at this;simp only[Instr.lookup,Sem.run_bind,run_underlying j,Result.andThen_ok,Sem.run_pure];exact this
  ·rename_i A;split at a
   ·rename_i es cl u;injection a with a;have:=fin es a;simp only[Sem.run_bind]at this;simp only[Instr.lookup,Sem.run_bind,run_underlying j,Result.andThen_ok,la o u,Sem.run_pure];exact this
   ·cases a
  ·cases a
 ·exact d.elim
def chg(k v:Value):List MapEntry->Nat->List MapEntry
 | [],_=> []
 |e::es,0=>{e with key:=k,val:=v}::es
 |e::es,i+1=>e::chg k v es i
theorem E2(k v:Value):∀(l:List MapEntry) (i:Nat),l.modify i (λe:MapEntry=>{e with key:=k,val:=v})=chg k v l i
 | [],i=>by cases i<;>rfl
 |e::es,0=>rfl
 |e::es,i+1=>by simp[chg,E2 k v es i]
def Lu(k v:Value)(es:List MapEntry)(cl:Nat)(r:Option (Nat×Value)):Obj:=match r with
 |some (i,_)=> .map (chg k v es i).toArray cl
 |none=> .map (es++ [({key:=k,val:=v,born:=cl}:MapEntry)]).toArray (cl+1)
def rO(P:Program)(t:TypeId)(m k v:Value)(h:Hp):Option Hp:=
 match m with
 | .map (some r)=>(match h.f r with
  |some (.map es cl)=>(dM P t).bind λx=>(gQ x.2.1 k es.toList 0).map λq=>h.put r (Lu k v es.toList cl q)
  |_=>none)
 |_=>none
def jB(P:Program)(t:TypeId)(m k v:Value)(h:Hp)(K:KH):Prop:=match rO P t m k v h with
 |some g=>K undef g
 |none=>False
theorem Is.E3{w:World}{h:Hp}(hi:Is w h){r:Nat}{es es':Array MapEntry}{cl cl':Nat}(e:h.f r=some (.map es cl))(P:Program):
 ∃w',(setObj r (.map es' cl')).run P w= .ok () w'/\Is w' (h.put r (.map es' cl'))/\bO w w':=by
 have b:=hi.2 r _ e;have a:r<w.heap.size:=(q0f.1 b).1;refine⟨{w with heap:=w.heap.setIfInBounds r (.map es' cl')},?_,hi.set e (by simp) (by simp[a]) (λx c=>?_),⟨rfl,rfl,rfl⟩⟩
 ·simp[setObj,Sem.run,b]
 ·have:¬r=x:=λe=>c e.symm
  simp[q3p this]
theorem bytes_beq(a b:ByteArray):(a==b)=true<->a=b:=by
 obtain⟨x⟩:=a;obtain⟨y⟩:=b;show(ByteArray.mk x).beq (ByteArray.mk y)=true<->_;simp[ByteArray.beq]
theorem Av{c:TypeDesc}{a b:Value}(h:Instr.sameNow c a b=some true)(n:Nat):Instr.sameBits n b a=true:=by
 unfold Instr.sameNow at h;split at h
 ·split at h
  ·rename_i d;subst d;injection h with h;simp only[beq_iff_eq]at h;subst h;simp[Instr.sameBits]
  ·cases h
 ·injection h with h;rw[bytes_beq]at h;subst h;simp only[Instr.sameBits];exact(bytes_beq _ _).2 rfl
 ·injection h with h;simp only[beq_iff_eq]at h;subst h;simp[Instr.sameBits]
 ·cases h
theorem E4{c:TypeDesc}{a b:Value}(h:ou c a b=some true):Instr.sameBits 10000 b a=true:=by
 unfold ou at h;split at h
 ·split at h
  ·split at h
   ·assumption
   ·cases h
  ·cases h
  ·cases h
 ·exact Av h 10000
theorem vW{a:TypeDesc}{k:Value}:∀(l:List MapEntry) (i j:Nat) (v:Value),gQ a k l i=some (some (j,v))->i<=j/\∃e,l[j-i]?=some e/\ou a k e.key=some true/\e.val=v
 | [],i,j,v,h=>by unfold gQ at h;split at h<;>cases h
 |e::es,i,j,v,h=>by
  simp only[gQ]at h;split at h
  ·rename_i c;simp only[q1z,q3a]at h;obtain⟨rfl,rfl⟩:=h;exact⟨Z6 _,e,by simp,c,rfl⟩
  ·obtain⟨f,g,b,m,n⟩:=vW es (i+1) j v h;refine⟨by omega,g,?_,m,n⟩;obtain⟨d,rfl⟩:∃d,j=i+1+d:=⟨j-(i+1),by omega⟩;rw[show i+1+d-i=d+1 from by omega];rw[show i+1+d-(i+1)=d from by omega]at b;simpa using b
  ·cases h
theorem qs{P:Program}{t:TypeId}{m k v:Value}{h:Hp}{K:KH}(f:jB P t m k v h K)(w:World)(hi:Is w h):
 ∃w' D,(Instr.mapUpdate t m k v).run P w= .ok () w'/\Is w' D/\bO w w'/\K undef D:=by
 unfold jB at f;split at f
 ·rename_i g b;unfold rO at b;split at b
  ·rename_i r;split at b
   ·rename_i es cl l;simp only[q2a,Z8]at b;obtain⟨⟨G,H,I⟩,F,q,d,rfl⟩:=b;obtain⟨E,a,n⟩:=nh F;dsimp only at d;cases q with
    |none=>
     obtain⟨w',j,o,p⟩:=hi.E3 (es':=(es.toList++ [({key:=k,val:=v,born:=cl}:MapEntry)]).toArray) (cl':=cl+1) l P;refine⟨w',_,?_,o,p,f⟩
     have e:(es.toList++ [({key:=k,val:=v,born:=cl}:MapEntry)]).toArray=es.push ({key:=k,val:=v,born:=cl}:MapEntry):=by
      apply q2w;simp
     rw[e]at j;simp only[Instr.mapUpdate,Sem.run_bind,run_underlying E,Result.andThen_ok,la hi.fits l,run_checkKey a n _ (ow d),run_findKey a n d,j]
    |some x=>
     obtain⟨i,u⟩:=x;obtain⟨_,z,A,c,_⟩:=vW es.toList 0 i u d;obtain⟨w',j,o,p⟩:=hi.E3 (es':=(chg k v es.toList i).toArray) (cl':=cl) l P;refine⟨w',_,?_,o,p,f⟩
     have e:(chg k v es.toList i).toArray=es.modify i (λe:MapEntry=>{e with key:=k,val:=v}):=by
      apply q2w;rw[<-E2];simp
     rw[e]at j
     have B:((es[i]?).map (·.key)).getD k=z.key:=by
      have:es[i]?=some z:=by simpa using A
      simp[this]
     have C:(Instr.keyThatStays z.key k).run P w= .ok k w:=by
      unfold Instr.keyThatStays;rw[if_pos (E4 c)];rfl
     simp only[Instr.mapUpdate,Sem.run_bind,run_underlying E,Result.andThen_ok,la hi.fits l,run_checkKey a n _ (ow d),run_findKey a n d,B,C,j]
   ·cases b
  ·cases b
 ·exact f.elim
def yU(l:List MapEntry):Option (Nat×Value)->List MapEntry
 |some (i,_)=>l.eraseIdx i
 |none=>l
def vk(P:Program)(t:TypeId)(m k:Value)(h:Hp):Option Hp:=
 match m with
 | .map (some r)=>(match h.f r with
  |some (.map es cl)=>(dM P t).bind λx=>(gQ x.2.1 k es.toList 0).map λq=>h.put r (.map (yU es.toList q).toArray cl)
  |_=>none)
 |_=>none
def ni(P:Program)(t:TypeId)(m k:Value)(h:Hp)(K:KH):Prop:=match vk P t m k h with
 |some g=>K (.tuple #[]) g
 |none=>False
theorem yF{P:Program}{t:TypeId}{c:Array TypeId}{ty:TypeId}{m k:Value}{h:Hp}{K:KH}(o:c[0]?=some t)(j:ni P t m k h K):iM P (Builtin.delete_ c ty #[m,k]) h K:=λw p=>by
 unfold ni at j;split at j
 ·rename_i g b;unfold vk at b;split at b
  ·rename_i r;split at b
   ·rename_i es cl s;simp only[q2a,Z8]at b;obtain⟨⟨E,F,G⟩,y,q,d,rfl⟩:=b;obtain⟨v,a,l⟩:=nh y;dsimp only at d;obtain⟨z,n,A,B⟩:=p.E3 (es':=(yU es.toList q).toArray) (cl':=cl) s P;refine⟨_,z,_,?_,A,B,j⟩;have f:(getObj r).run P w= .ok (.map es cl) w:=la p.fits s;cases q with
    |none=>
     have e:(yU es.toList none).toArray=es:=by apply q2w;simp[yU]
     rw[e]at n;simp[Builtin.delete_,o,run_underlying v,f,run_checkKey a l _ (ow d),run_findKey a l d,n]
    |some x=>
     obtain⟨i,u⟩:=x;have e:(yU es.toList (some (i,u))).toArray=es.eraseIdxIfInBounds i:=by apply q2w;simp[yU]
     rw[e]at n;simp[Builtin.delete_,o,run_underlying v,f,run_checkKey a l _ (ow d),run_findKey a l d,n]
   ·cases b
  ·cases b
 ·exact j.elim
theorem vX{P:Program}{t:TypeId}{h:Hp}{K:KH}(b:K (.map (some h.n)) ((h.put h.n (.map #[] 0)).to (h.n+1))):iM P (Instr.makeMap t none) h K:=λw a=>by
 refine⟨_,_,_,?_,a.push _,bO.push _ _,b⟩;simp[Instr.makeMap,newObj,Sem.run,a.1]
theorem Is.setIter{w:World}{h:Hp}(hi:Is w h){r:Nat}{o o':Obj}(e:h.f r=some o):Is (Go.ChangeMaps.setBlock w r o') (h.put r o'):=by
 have b:=hi.2 r _ e;have a:r<w.heap.size:=(q0f.1 b).1;refine hi.set (g:=w.heap.setIfInBounds r o') e (by simp) (by simp[a]) (λx c=>?_);have:¬r=x:=λe=>c e.symm
 simp[q3p this]
def Aw(P:Program)(t:TypeId):Bool:=match P.underlying t with
 |some (.map _ _)=>true
 |_=>false
theorem Co{P:Program}{t:TypeId}(h:Aw P t=true):∃k e,P.underlying t=some (.map k e):=by
 unfold Aw at h;split at h
 ·exact⟨_,_,by assumption⟩
 ·cases h
def Ax(P:Program)(t:TypeId)(x:Value)(h:Hp)(K:KH):Prop:=Aw P t=true/\match x with
 | .map (some m)=>(match h.f m with
  |some (.map _ cl)=>K (.pointer (some ⟨h.n,0,none⟩)) ((h.put h.n (.mapIter (some m) cl #[] cl)).to (h.n+1))
  |_=>False)
 |_=>False
theorem Ay{P:Program}{t:TypeId}{x:Value}{h:Hp}{K:KH}(a:Ax P t x h K):iM P (Instr.range t x) h K:=λw b=>by
 obtain⟨c,a⟩:=a;obtain⟨k,e,d⟩:=Co c;split at a
 ·rename_i m;split at a
  ·rename_i es cl f;refine⟨_,_,(h.put h.n (.mapIter (some m) cl #[] cl)).to (h.n+1),run_range_map w t k e m es cl d (b.2 _ _ f),?_,⟨rfl,rfl,rfl⟩,?_⟩
   ·exact b.push _
   ·rw[b.1];exact a
  ·exact a.elim
 ·exact a.elim
def qt(es:List MapEntry)(seen:Array Nat):List MapEntry:=es.filter λe=>!seen.contains e.born
theorem qu(es:Array MapEntry)(seen:Array Nat):(leftOf es seen).toList=qt es.toList seen:=by
 simp[leftOf,qt]
def uF(x:Value)(s:Bool)(h:Hp)(K:KH):Prop:=match x,s with
 | .pointer (some ⟨r,0,none⟩),false=>(match h.f r with
  |some (.mapIter (some m) since seen last)=>(match h.f m with
   |some (.map es cl)=>(∀e∈es.toList,e.born<since)/\since<=last/\(qt es.toList seen=[]->K (.tuple #[.bool false]) h)/\∀e∈qt es.toList seen,K (.tuple #[.bool true,e.key,e.val]) (h.put r (.mapIter (some m) since (seen.push e.born) cl))
   |_=>False)
  |_=>False)
 |_,_=>False
theorem Cp{P:Program}{ty:TypeId}{x:Value}{s:Bool}{h:Hp}{K:KH}(b:uF x s h K):iM P (Instr.next x s ty) h K:=λw d=>by
 unfold uF at b;split at b
 ·rename_i r;split at b
  ·rename_i m since seen last i;split at b
   ·rename_i es cl l;obtain⟨n,o,p,q⟩:=b;rcases run_next_at (P:=P) w ty r m since last seen es cl (d.2 _ _ i) (d.2 _ _ l) n o with⟨t,a⟩|⟨e,j,k,c,a⟩
    ·refine⟨_,w,h,a,d,bO.refl w,p ?_⟩;rw[<-qu];exact q0c (by simpa using t)
    ·rw[qu]at j;have f:Is k h:=by rcases c with rfl|rfl<;>exact d
     have g:bO w k:=by rcases c with rfl|rfl<;>exact⟨rfl,rfl,rfl⟩
     exact⟨_,_,_,a,f.setIter i,g.trans ⟨rfl,rfl,rfl⟩,q e j⟩
   ·exact b.elim
  ·exact b.elim
 ·exact b.elim
def nk(x:Value)(h:Hp)(K:Value->Prop):Prop:=match x with
 | .pointer (some ⟨r,0,none⟩)=>(match h.f r with
  |some (.mapIter (some m) _ seen last)=>(match h.f m,seen.back? with
   |some (.map es cl),some b=>(match es.find? (·.born==b)with
    |some e=>cl=last/\K (.tuple #[e.key,e.val])
    |none=>False)
   |_,_=>False)
  |_=>False)
 |_=>False
theorem Az{P:Program}{x:Value}{h:Hp}{K:Value->Prop}(a:nk x h K):PG P (Instr.entry x) h K:=by
 unfold nk at a;split at a
 ·rename_i r;split at a
  ·rename_i m since seen last d;split at a
   ·rename_i es cl b f g;split at a
    ·rename_i e i;obtain⟨rfl,a⟩:=a;refine .here (λw c=>?_) a;have j:=c _ _ d;have k:=c _ _ f;simp only[Instr.entry,getObj,Sem.run_bind,Sem.run,j,k,Result.andThen,g,bne_self_eq_false,q2b,if_false,i];rfl
    ·exact a.elim
   ·exact a.elim
  ·exact a.elim
 ·exact a.elim
def bR(P:Program)(f:FuncId):Bool:=match P.funcs[f]? with
 |some fn=>!(fn.name== "runtime.NumGoroutine")&&fn.body.isSome
 |none=>false
theorem np{P:Program}{f:FuncId}(a:bR P f=true)(args:Array Value)(w:World):(callFunc f args).run P w= .ok (.enter f args) w:=by
 unfold bR at a;split at a
 ·rename_i fn d;simp only[Z7,q2x]at a
  have b:fn.body.isNone=false:=by
   cases b:fn.body with
   |none=>rw[b]at a;simp at a
   |some c=>rfl
  have g:fn.body≠none:=λe=>by rw[e]at b;cases b
  have h:¬fn.name= "runtime.NumGoroutine" :=by simpa using a.1
  simp[callFunc,d,h,g]
 ·cases a
def dI(P:Program)(f:FuncId)(args:Array Value)(h:Hp)(K:KH):Prop:=bR P f=true/\vK P f args h K
def VH(P:Program)(f:FuncId)(args:Array Value)(h:Hp)(v:Value):Prop:=bR P f=true/\∀n,h.n<=n->vK P f args (h.to n) λu g=>u=v/\∃k,n<=k/\g=h.to k
def yV(P:Program)(f:Value)(args:Array Value)(h:Hp)(K:KH):Prop:=
 match f with
 | .func (.func g) first captured=>dI P g (first++args++captured) h K
 |_=>False
def R0(P:Program)(f:Value)(args:Array Value)(h:Hp)(K:Value->Prop):Prop:=
 match f with
 | .func (.func g) first captured=>∃v,VH P g (first++args++captured) h v/\K v
 |_=>False
def dJ(P:Program)(b:Builtin)(a:List TypeId)(args:List Value)(h:Hp)(K:Value->Prop):Prop:=
 match b,a,args with
 | .len,[t],[x]=>mA P t x h K
 | .min,_,[x,y]=>cH false x y K
 | .max,_,[x,y]=>cH true x y K
 | .min,_,[x,y,z]=>cH false x y λu=>cH false u z K
 | .max,_,[x,y,z]=>cH true x y λu=>cH true u z K
 |_,_,_=>False
def tC(K:KH):KH:=λv h=>∃g,Sub g h/\K v g
theorem iM.Yd{P:Program}{s:Sem Value}{h:Hp}{K:KH}(c:iM P s h (tC K)):iM P s h K:=λw d=>by
 obtain⟨v,e,k,f,b,i,g,a,j⟩:=c w d;exact⟨v,e,g,f,b.sub a,i,j⟩
def iR(P:Program)(b:Builtin)(a:List TypeId)(args:List Value)(h:Hp)(K:KH):Prop:=
 match b,a,args with
 | .append,[t,u],[s,x]=>iQ P t u s x h (tC K)
 | .copy,[t,_],[s,x]=>ot P t s x h K
 | .delete,[t,_],[m,k]=>ni P t m k h K
 |_,_,_=>False
def dG(P:Program)(o:Op)(d:Env)(h:Hp)(K:Value->Prop):Prop:=
 match o with
 | .move x=>K (d.ev x)
 | .assign x=>K (d.ev x)
 | .pick c a b=>(match d.ev c with
  | .bool q=>K (if q=true then d.ev a else d.ev b)
  |_=>False)
 | .build t parts=>(match pN P t (parts.toList.map λx=>(x.1,d.ev x.2))with
  |some r=>K (.agg r)
  |none=>False)
 | .load t a=>kZ P t (d.ev a) h K
 | .nilCheck x=>(match d.ev x with
  | .pointer (some a)=>K (.pointer (some a))
  | .func (.func f) a b=>K (.func (.func f) a b)
  |_=>False)
 | .binOp op t x y _=>jG P op t (d.ev x) (d.ev y) h K
 | .unOp op _ x=>aun op (d.ev x) K
 | .makeFunc fn first captured=>K (.func fn (first.map d.ev) (captured.map d.ev))
 | .slice t x lo e mx=>dz P t (d.ev x) (lo.map d.ev) (e.map d.ev) (mx.map d.ev) K
 | .fieldAddr s x i=>ga P s (d.ev x) i K
 | .field t x i=>qH P t (d.ev x) i K
 | .indexAddr t x ix=>cG P t (d.ev x) (d.ev ix) K
 | .index t x ix=>jX P t (d.ev x) (d.ev ix) K
 | .extract x i=>k7 (d.ev x) i K
 | .lookup t m k ok=>fO P t (d.ev m) (d.ev k) ok h K
 | .entry it=>nk (d.ev it) h K
 | .call c=>(match c.callee with
  | .builtin b=>dJ P b c.argTypes.toList (c.args.toList.map d.ev) h K
  |_=>False)
 |_=>False
def nZ(P:Program)(o:Op)(d:Env)(h:Hp)(K:KH):Prop:=
 match o with
 | .alloc e=>qI P e h K
 | .box e x=>Jc e (d.ev x).cells h K
 | .buildSlice t len parts=>(match dX P t len (parts.toList.map λx=>(x.1,d.ev x.2))with
  |some (e,r)=>K (.slice (some ⟨h.n,0,none⟩) len len) ((h.put h.n (.cells r e (0,0))).to (h.n+1))
  |none=>False)
 | .store t a x=>oq P t (d.ev a) (d.ev x) h K
 | .convert src dst x=>iB P src dst (d.ev x) h K
 | .makeSlice t l c=>vU P t (d.ev l) (d.ev c) h K
 | .makeMap _ none=>K (.map (some h.n)) ((h.put h.n (.map #[] 0)).to (h.n+1))
 | .mapUpdate t m k x=>jB P t (d.ev m) (d.ev k) (d.ev x) h K
 | .insert t m k x=>jB P t (d.ev m) (d.ev k) (d.ev x) h K
 | .range t x=>Ax P t (d.ev x) h K
 | .next it s=>uF (d.ev it) s h K
 | .call c=>(match c.callee with
  | .builtin b=>iR P b c.argTypes.toList (c.args.toList.map d.ev) h K
  | .value f=>yV P (d.ev f) (c.args.map d.ev) h K
  |_=>False)
 |_=>False
def qL:Callee->Bool
 | .builtin .append=>true
 | .builtin .copy=>true
 | .builtin .delete=>true
 | .value _=>true
 |_=>false
def bV:Op->Bool
 | .alloc _| .box .. | .buildSlice .. | .store .. | .convert .. | .makeSlice .. | .makeMap .. | .mapUpdate .. | .insert .. | .range .. | .next .. =>true
 | .call c=>qL c.callee
 |_=>false
def bK(P:Program)(o:Op)(a:Env)(h:Hp)(K:KH):Prop:=if bV o=true then nZ P o a h K else dG P o a h λv=>K v h
theorem oA{P:Program}{o:Oper}{j:Env}{h:Hp}{K:Value->Prop}(d:dG P o.op j h K):∃v,K v/\∀w,Fits w h->(execOp j.ev o).run P w= .ok (.value v) w:=by
 have lift:∀{s:Sem Value},PG P s h K->execOp j.ev o=(do pure (.value (<-s)))->∃v,K v/\∀w,Fits w h->(execOp j.ev o).run P w= .ok (.value v) w:=λy z=>
  let⟨v,A,n⟩:=y
  ⟨v,A,λw B=>by rw[z];simp only[Sem.run_bind,n w B,Result.andThen_ok];rfl⟩
 obtain⟨dst,op,ty,pos,after,guard⟩:=o;dsimp only at d;unfold dG at d;split at d
 case h_1=>exact⟨_,d,λw _=>rfl⟩
 case h_2=>exact⟨_,d,λw _=>rfl⟩
 case h_3=>
  split at d
  ·rename_i q C;exact⟨_,d,λw _=>by simp[execOp,C,asBool]⟩
  ·exact d.elim
 case h_4=>
  rename_i t parts;split at d
  ·rename_i r n;refine lift (s:=Instr.build t (parts.map λ(i,x)=>(i,j.ev x))) (.here (λw _=>yC ?_ w) d) rfl
   simpa using n
  ·exact d.elim
 case h_5=>exact lift (uA d) rfl
 case h_6=>
  split at d
  ·rename_i a p;exact⟨_,d,λw _=>by simp[execOp,p]⟩
  ·rename_i f a b p;exact⟨_,d,λw _=>by simp[execOp,p]⟩
  ·exact d.elim
 case h_7=>exact lift (Ce d) rfl
 case h_8=>exact lift (Jb d) rfl
 case h_9=>exact⟨_,d,λw _=>rfl⟩
 case h_10=>exact lift (Ar d) rfl
 case h_11=>exact lift (tw d) rfl
 case h_12=>exact lift (Ao d) rfl
 case h_13=>exact lift (tz d) rfl
 case h_14=>exact lift (Ap d) rfl
 case h_15=>exact lift (vO d) rfl
 case h_16=>exact lift (yE d) rfl
 case h_17=>exact lift (Az d) rfl
 case h_18=>
  rename_i c;split at d
  ·rename_i b u
   have g:execOp j.ev ⟨dst,.call c,ty,pos,after,guard⟩=builtin b c.argTypes ty (c.args.map fun| .const _=>true|_=>false) (c.args.map j.ev):=by
    obtain⟨callee,args,D⟩:=c;dsimp only at u;subst u;rfl
   have arr:∀{l:List Value},c.args.toList.map j.ev=l->c.args.map j.ev=l.toArray:=λe=>by
    apply q2w;simpa using e
   have m:∀{l:List TypeId},c.argTypes.toList=l->c.argTypes=l.toArray:=λe=>by
    apply q2w;simpa using e
   unfold dJ at d;split at d
   ·rename_i E k;exact lift (EZ d) (by rw[g,arr k,m E];rfl)
   ·rename_i k;exact lift (E0 d) (by rw[g,arr k];rfl)
   ·rename_i k;exact lift (E1 d) (by rw[g,arr k];rfl)
   ·rename_i k;exact lift (Cj d) (by rw[g,arr k];rfl)
   ·rename_i k;exact lift (Ck d) (by rw[g,arr k];rfl)
   ·exact d.elim
  ·exact d.elim
 case h_19=>exact d.elim
inductive Ran(P:Program)(w:World)(K:KH):Result Next->Prop
 |value (v:Value) (w':World) (h':Hp) (hi:Is w' h') (hs:bO w w') (hk:K v h'):Ran P w K (.ok (.value v) w')
 |skip (w':World) (h':Hp) (hi:Is w' h') (hs:bO w w') (hk:K undef h'):Ran P w K (.ok .skip w')
 |enter (f:FuncId) (args:Array Value) (w':World) (h':Hp) (hi:Is w' h') (hs:bO w w') (hk:vK P f args h' K):Ran P w K (.ok (.enter f args) w')
theorem iM.ran{P:Program}{s:Sem Value}{h:Hp}{K:KH}(a:iM P s h K){w:World}(hi:Is w h):Ran P w K ((do pure (.value (<-s)):Sem Next).run P w):=by
 obtain⟨v,b,c,d,i,e,k⟩:=a w hi;simp only[Sem.run_bind,d,Result.andThen_ok];exact .value v b c i e k
theorem Cq{P:Program}{o:Oper}{j:Env}{h:Hp}{K:KH}(d:nZ P o.op j h K){w:World}(hi:Is w h):Ran P w K ((execOp j.ev o).run P w):=by
 have lift:∀{s:Sem Value},iM P s h K->execOp j.ev o=(do pure (.value (<-s)))->Ran P w K ((execOp j.ev o).run P w):=λB D=>by
  rw[D];exact B.ran hi
 obtain⟨dst,op,ty,pos,after,guard⟩:=o;dsimp only at d;unfold nZ at d;split at d
 case h_1=>exact lift (Aq d) rfl
 case h_2=>exact lift (vQ d) rfl
 case h_3=>
  rename_i t len parts;split at d
  ·rename_i e r q;have E:(parts.map λ(i,x)=>(i,j.ev x)).toList=parts.toList.map λx=>(x.1,j.ev x.2):=by simp
   rw[<-E]at q;have B:iM P (Instr.buildSlice t len (parts.map λ(i,x)=>(i,j.ev x))) h K:=qJ q d;exact lift B rfl
  ·exact d.elim
 case h_4=>
  rename_i t a x;obtain⟨u,y,q,i,s,k⟩:=An d w hi
  have:(execOp j.ev ⟨dst,.store t a x,ty,pos,after,guard⟩).run P w= .ok .skip u:=by
   simp only[execOp,Sem.run_bind,q,Result.andThen_ok];rfl
  rw[this];exact .skip u y i s k
 case h_5=>exact lift (Cf d) rfl
 case h_6=>exact lift (Ch d) rfl
 case h_7=>exact lift (vX d) rfl
 case h_8=>
  rename_i t m k x;obtain⟨u,y,q,i,s,C⟩:=qs d w hi
  have:(execOp j.ev ⟨dst,.mapUpdate t m k x,ty,pos,after,guard⟩).run P w= .ok .skip u:=by
   simp only[execOp,Sem.run_bind,q,Result.andThen_ok];rfl
  rw[this];exact .skip u y i s C
 case h_9=>
  rename_i t m k x;obtain⟨u,y,q,i,s,C⟩:=qs d w hi
  have:(execOp j.ev ⟨dst,.insert t m k x,ty,pos,after,guard⟩).run P w= .ok .skip u:=by
   simp only[execOp,Sem.run_bind,q,Result.andThen_ok];rfl
  rw[this];exact .skip u y i s C
 case h_10=>exact lift (Ay d) rfl
 case h_11=>exact lift (Cp d) rfl
 case h_12=>
  rename_i c;obtain⟨callee,args,n⟩:=c;dsimp only at d;split at d
  ·rename_i b
   have arr:∀{l:List Value},args.toList.map j.ev=l->args.map j.ev=l.toArray:=λe=>by
    apply q2w;simpa using e
   have p:∀{l:List TypeId},n.toList=l->n=l.toArray:=λe=>by
    apply q2w;simpa using e
   have v:execOp j.ev ⟨dst,.call {callee:= .builtin b,args:=args,argTypes:=n},ty,pos,after,guard⟩=builtin b n ty (args.map fun| .const _=>true|_=>false) (args.map j.ev):=rfl
   unfold iR at d;split at d
   ·rename_i z A;exact lift (yD d).Yd (by rw[v,arr A,p z];rfl)
   ·rename_i z A;exact lift (Ci rfl d) (by rw[v,arr A,p z];rfl)
   ·rename_i z A;exact lift (yF rfl d) (by rw[v,arr A,p z];rfl)
   ·exact d.elim
  ·rename_i f;unfold yV at d;split at d
   ·rename_i g first captured F
    have:(execOp j.ev ⟨dst,.call {callee:= .value f,args:=args,argTypes:=n},ty,pos,after,guard⟩).run P w= .ok (.enter g (first++args.map j.ev++captured)) w:=by
     simp only[execOp,resolve,F,Deferred.ofValue,invoke,Sem.run_bind,Sem.run_pure,Result.andThen_ok,np d.1]
    rw[this];exact .enter g _ w h hi (bO.refl w) d.2
   ·exact d.elim
  ·exact d.elim
 case h_13=>exact d.elim
theorem jH{P:Program}{o:Oper}{b:Env}{h:Hp}{K:KH}(a:bK P o.op b h K){w:World}(hi:Is w h):Ran P w K ((execOp b.ev o).run P w):=by
 unfold bK at a;split at a
 ·exact Cq a hi
 ·obtain⟨v,c,d⟩:=oA a;rw[d w hi.fits];exact .value v w h hi (bO.refl w) c
theorem Ran.wp {P:Program} {o:Oper} {a:Act} {w w0:World} {K:KH} {N:Act->World->Prop} {Q:Exit->Act->World->Prop} (n:Ran P w K ((execOp a.eval o).run P w)) (k:bO w0 w)
 (hn:∀v c w',Is w' c->bO w0 w'->K v c->N (a.put o.dst v) w'):o.wp P a w N Q:=by
 unfold Oper.wp;generalize (execOp a.eval o).run P w=r at n;cases n with
 |value v w' c d b h=>exact hn v c w' d (k.trans b) h
 |skip w' c d b h=>exact hn undef c w' d (k.trans b) h
 |enter f args w' c d b h=>
  exact(h w' d).mono λe l ⟨v,g,p,i,j,m⟩=>by
   subst p;exact hn v g l i ((k.trans b).trans j) m
def jI(ops:Array Oper)(j:Nat):Option Nat:=(ops[j]?).bind (·.dst)
def lb(P:Program)(ops:Array Oper):List Oper->Env->Hp->(Env->Hp->Prop)->Prop
 | [],a,h,N=>N a h
 |o::l,a,h,N=>(match o.guard with
  |none=>bK P o.op a h λv b=>lb P ops l (a.put o.dst v) b N
  |some (j,want)=>(match jI ops j with
   |none=>False
   |some t=>(match a t with
    | .bool q=>Br (q==want) (bK P o.op (a.upd t (.bool want)) h λv b=>lb P ops l ((a.upd t (.bool want)).put o.dst v) b N)
     (lb P ops l ((a.upd t (.bool (!want))).put o.dst undef) h N)
    | .tuple _=>lb P ops l (a.put o.dst undef) h N
    |_=>False)))
theorem nq{a:Env}{t:Nat}{v:Value}(h:a t=v):a.upd t v=a:=by
 funext x;simp only[Env.upd];split
 ·rename_i e;rw[e,h]
 ·rfl
theorem qM{n:Nat}{a:Act}{c:Env}(e:Rel n a c)(ops:Array Oper){j t:Nat}(d:jI ops j=some t):yielded ops a.tmps j=(match c t with| .bool b=>some b|_=>none):=by
 have f:=e.2.2 t;unfold yielded;unfold jI at d;rw[d];simp only[q2e];rw[<-f];simp only[q2k];cases a.tmps[t]? with
 |none=>simp[undef]
 |some v=>cases v<;>rfl
def gI(ds:List Nat)(ρ0 a:Env):Prop:=∀t,ds.contains t=false->a t=ρ0 t
theorem gI.put{ds:List Nat}{ρ0 b:Env}(c:gI ds ρ0 b){d:Option Nat}(hd:∀t,d=some t->ds.contains t=true)(v:Value):gI ds ρ0 (b.put d v):=by
 intro t a;cases d with
 |none=>exact c t a
 |some d=>
  have:t≠d:=λe=>by subst e;rw[hd _ rfl]at a;cases a
  simp only[Env.put,Env.upd,if_neg this];exact c t a
section
variable {P:Program} {C C':Value->Prop}
structure One(F:(Value->Prop)->Prop):Prop where
 mono:∀{C C':Value->Prop},(∀v,C v->C' v)->F C->F C'
 both:∀{C C':Value->Prop},F C->F C'->∃u,C u/\C' u/\F (λv=>v=u)
theorem One.ap(v:Value):One (λC=>C v):=⟨λh k=>h _ k,λh k=>⟨v,h,k,rfl⟩⟩
theorem One.false:One (λ_=>False):=⟨λ_ h=>h.elim,λh=>h.elim⟩
theorem One.and{p:Prop}{F:(Value->Prop)->Prop}(a:One F):One (λC=>p/\F C):=
 ⟨λh k=>⟨k.1,a.mono h k.2⟩,λh k=>let⟨u,b,c,d⟩:=a.both h.2 k.2;⟨u,b,c,h.1,d⟩⟩
theorem Pj(op:BinOp)(t:TypeId)(x y:Value):One (kY P op t x y):=by
 unfold kY;cases x<;>cases y<;>try exact One.false
 case int.int=>cases op<;>first|exact .and (.and (.ap _))|exact .and (.ap _)
 case string.string=>cases op<;>first|exact .and (.ap _)|exact .ap _|exact .false
 case bool.bool=>cases op<;>first|exact .and (.ap _)|exact .false
 case pointer.pointer p q=>
  cases q with
  |some a=>exact .false
  |none=>
   cases op<;>try exact One.false
   all_goals(cases P.underlying t with
    |none=>exact .false
    |some d=>cases d<;>first|exact .ap _|exact .false)
 case slice.slice p n c q e f=>
  cases q with
  |some a=>exact .false
  |none=>
   cases op<;>try exact One.false
   all_goals(cases P.underlying t with
    |none=>exact .false
    |some d=>cases d<;>first|exact .ap _|exact .false)
 case agg.agg xs b=>
  dsimp only;cases vL P t xs b with
  |none=>cases op<;>exact .false
  |some q=>cases op<;>first|exact .ap _|exact .false
theorem Lv(op:BinOp)(t:TypeId)(x y:Value)(h:Hp):One (jG P op t x y h):=by
 unfold jG;split
 ·unfold Jd;split
  ·exact .and (.and (.ap _))
  ·exact .and (.and (.ap _))
  ·exact .false
 ·exact Pj _ _ _ _
theorem SZ(op:UnOp)(x:Value):One (aun op x):=by
 unfold aun;cases op<;>cases x<;>first|exact .ap _|exact .false
theorem Lw(t:TypeId)(a:Value)(h:Hp):One (kZ P t a h):=by
 unfold kZ;split
 ·rename_i b o;cases h.f b with
  |none=>exact .false
  |some x=>
   cases x<;>try exact One.false
   rename_i c e fz;cases nX P t with
   |none=>exact .false
   |some q=>
    cases q
    ·dsimp only;cases c[o]?<;>first|exact .false|exact .ap _
    ·dsimp only;cases aE P t with
     |none=>exact .false
     |some n=>
      dsimp only;cases cO c o n<;>first|exact .false|exact .ap _
 ·exact .false
theorem yG(s:TypeId)(a:Value)(i:Nat):One (ga P s a i):=by
 unfold ga;split
 ·exact .ap _
 ·exact .false
theorem Cr(t:TypeId)(cs:Array Value)(off:Nat):One (nc P t cs off):=by
 unfold nc;cases nX P t with
 |none=>exact .false
 |some q=>
  cases q
  ·dsimp only;cases cs[off]?<;>first|exact .false|exact .ap _
  ·dsimp only;cases aE P t<;>first|exact .false|exact .ap _
theorem Jf(s:TypeId)(x:Value)(i:Nat):One (qH P s x i):=by
 unfold qH;split
 ·exact Cr _ _ _
 ·exact .false
theorem yH(t:TypeId)(x ix:Value):One (cG P t x ix):=by
 unfold cG;split
 ·split
  ·refine .and (.and ?_);cases aE P _<;>first|exact .false|exact .ap _
  ·refine .and (.and ?_);cases aE P _<;>first|exact .false|exact .ap _
  ·exact .false
 ·exact .false
theorem Jg(t:TypeId)(x ix:Value):One (jX P t x ix):=by
 unfold jX;split
 ·split
  ·refine .and (.and ?_);cases aE P _<;>first|exact .false|exact Cr _ _ _
  ·refine .and ?_;rename_i i _ _ s _;cases s.toList[i.toNat]?<;>first|exact .false|exact .ap _
  ·exact .false
 ·exact .false
theorem Ct(x:Value)(i:Nat):One (k7 x i):=by
 unfold k7;split
 ·rename_i a;cases a[i]?<;>first|exact .false|exact .ap _
 ·exact .false
theorem Pm(t:TypeId)(x:Value)(h:Hp):One (mA P t x h):=by
 unfold mA;split
 ·exact .ap _
 ·exact .ap _
 ·exact .ap _
 ·exact .ap _
 ·split
  ·exact .ap _
  ·exact .false
 ·exact .false
theorem Lx(q:Bool)(x y:Value):One (cH q x y):=by
 unfold cH;split
 ·exact .ap _
 ·exact .false
theorem G2(q:Bool)(x y z:Value):One λK=>cH q x y λu=>cH q u z K:=by
 unfold cH;split
 ·dsimp only;split
  ·exact .ap _
  ·exact .false
 ·exact .false
theorem E5(t:TypeId)(m k:Value)(ok:Bool)(h:Hp):One (fO P t m k ok h):=by
 unfold fO;cases ky P t m k ok h<;>first|exact .false|exact .ap _
theorem Jh(x:Value)(h:Hp):One (nk x h):=by
 unfold nk;split
 ·split
  ·split
   ·split
    ·exact .and (.ap _)
    ·exact .false
   ·exact .false
  ·exact .false
 ·exact .false
theorem Ji(t:TypeId)(x:Value)(lo hi mx:Option Value):One (dz P t x lo hi mx):=by
 unfold dz;split
 ·refine .and (.and ?_);split
  ·exact .and (.and (.and (.ap _)))
  ·exact .false
 ·split
  ·split
   ·exact .and (.and (.and (.and (.and (.ap _)))))
   ·exact .false
  ·exact .false
 ·exact .false
theorem gZ(o:Op)(a:Env)(h:Hp):One (dG P o a h):=by
 unfold dG;split
 ·exact .ap _
 ·exact .ap _
 ·split
  ·exact .ap _
  ·exact .false
 ·split
  ·exact .ap _
  ·exact .false
 ·exact Lw _ _ _
 ·split
  ·exact .ap _
  ·exact .ap _
  ·exact .false
 ·exact Lv _ _ _ _ _
 ·exact SZ _ _
 ·exact .ap _
 ·exact Ji _ _ _ _ _
 ·exact yG _ _ _
 ·exact Jf _ _ _
 ·exact yH _ _ _
 ·exact Jg _ _ _
 ·exact Ct _ _
 ·exact E5 _ _ _ _ _
 ·exact Jh _ _
 ·split
  ·unfold dJ;split
   ·exact Pm _ _ _
   ·exact Lx _ _ _
   ·exact Lx _ _ _
   ·exact G2 _ _ _ _
   ·exact G2 _ _ _ _
   ·exact .false
  ·exact .false
 ·exact .false
end
structure Mono(F:KH->Prop):Prop where
 mono:∀{K K':KH},(∀v h,K v h->K' v h)->F K->F K'
section
variable {P:Program}
theorem Mono.ap(v:Value)(h:Hp):Mono (λK=>K v h):=⟨λm k=>m _ _ k⟩
theorem Mono.false:Mono (λ_=>False):=⟨λ_ h=>h.elim⟩
theorem Mono.and{p:Prop}{F:KH->Prop}(a:Mono F):Mono (λK=>p/\F K):=⟨λh k=>⟨k.1,a.mono h k.2⟩⟩
theorem One.toMono{F:(Value->Prop)->Prop}(a:One F)(h:Hp):Mono (λK=>F λv=>K v h):=⟨λm k=>a.mono (λv b=>m v h b) k⟩
theorem Jj(s d:TypeId)(x:Value)(h:Hp):Mono (iB P s d x h):=⟨λ{K c} m k=>by
 unfold iB at*;split at k
 ·split at k
  ·exact m _ _ k
  ·exact k.elim
 ·split at k
  ·exact m _ _ k
  ·exact⟨k.1,λcap b=>m _ _ (k.2 cap b)⟩
  ·exact k.elim
 ·split at k
  ·refine⟨k.1,?_⟩;have a:=k.2;split at a
   ·exact m _ _ a
   ·split at a
    ·split at a
     ·exact m _ _ a
     ·exact a.elim
    ·exact a.elim
   ·exact a.elim
  ·exact k.elim
 ·exact k.elim⟩
theorem E6(t:TypeId)(a v:Value)(h:Hp):Mono (oq P t a v h):=by
 unfold oq;split
 ·split
  ·exact .and (.and (.and (.and (.ap _ _))))
  ·exact .false
 ·exact .false
theorem Jk(t:TypeId)(l c:Value)(h:Hp):Mono (vU P t l c h):=by
 unfold vU;split
 ·split
  ·split
   ·exact .and (.and (.and (.and (.ap _ _))))
   ·exact .false
  ·exact .false
 ·exact .false
theorem Jl(t:TypeId)(d x:Value)(h:Hp):Mono (ot P t d x h):=by
 unfold ot;split
 ·split
  ·split
   ·split
    ·split
     ·exact .ap _ _
     ·split
      ·exact .and (.and (.and (.ap _ _)))
      ·exact .false
     ·exact .false
    ·exact .false
   ·exact .false
  ·exact .false
 ·exact .false
theorem Cu(t u:TypeId)(s x:Value)(h:Hp):Mono (iQ P t u s x h):=⟨λ{K E} m k=>by
 unfold iQ at*;split at k
 ·obtain⟨e,f,g,a,z,n,new,i,j,l,o,p,q,r,v,w,b,c⟩:=k;refine⟨e,f,g,a,z,n,new,i,j,l,o,p,q,r,v,w,λd=>?_,λd=>?_⟩
  ·have:=b d;unfold uD at*;split at this
   ·exact m _ _ this
   ·split at this
    ·exact⟨this.1,this.2.1,this.2.2.1,m _ _ this.2.2.2⟩
    ·exact this.elim
   ·exact this.elim
  ·obtain⟨y,old,A,B⟩:=c d;exact⟨y,old,A,λcap D=>m _ _ (B cap D)⟩
 ·exact k.elim⟩
theorem AA(t u:TypeId)(s x:Value)(h:Hp):Mono (λK=>iQ P t u s x h (tC K)):=⟨λm k=>(Cu t u s x h).mono (λv g ⟨a,b,c⟩=>⟨a,b,m _ _ c⟩) k⟩
theorem Jm(f:Value)(args:Array Value)(h:Hp):Mono (yV P f args h):=⟨λ{K a} m k=>by
 unfold yV at*;split at k
 ·exact⟨k.1,k.2.mono m⟩
 ·exact k.elim⟩
theorem Jn(o:Op)(a:Env)(h:Hp):Mono (nZ P o a h):=by
 unfold nZ;split
 ·unfold qI;split
  ·exact .ap _ _
  ·exact .false
 ·exact .ap _ _
 ·split
  ·exact .ap _ _
  ·exact .false
 ·exact E6 _ _ _ _
 ·exact Jj _ _ _ _
 ·exact Jk _ _ _ _
 ·exact .ap _ _
 ·unfold jB;split
  ·exact .ap _ _
  ·exact .false
 ·unfold jB;split
  ·exact .ap _ _
  ·exact .false
 ·unfold Ax;refine .and ?_;split
  ·split
   ·exact .ap _ _
   ·exact .false
  ·exact .false
 ·unfold uF;split
  ·split
   ·split
    ·exact⟨λm k=>⟨k.1,k.2.1,λq=>m _ _ (k.2.2.1 q),λe b=>m _ _ (k.2.2.2 e b)⟩⟩
    ·exact .false
   ·exact .false
  ·exact .false
 ·split
  ·unfold iR;split
   ·exact AA _ _ _ _ _
   ·exact Jl _ _ _ _
   ·unfold ni;split
    ·exact .ap _ _
    ·exact .false
   ·exact .false
  ·exact Jm _ _ _
  ·exact .false
 ·exact .false
theorem yW(o:Op)(a:Env)(h:Hp):Mono (bK P o a h):=by
 unfold bK;split
 ·exact Jn _ _ _
 ·exact(gZ _ _ _).toMono h
end
def vY(P:Program)(t:TypeId):Bool:=match P.underlying t with
 |some (.pointer _)=>true
 |_=>false
def S1:BinOp->Bool
 | .eql| .neq=>true
 |_=>false
def AB(P:Program)(a:Array TypeId):Bool:=match a.toList with
 | [t]=>(match P.underlying t with
  |some (.map _ _)=>false
  |_=>true)
 |_=>false
def qN(P:Program):Op->Bool
 | .move _| .assign _| .pick .. | .build .. | .nilCheck _| .unOp .. | .makeFunc .. | .slice .. | .fieldAddr .. | .field .. | .indexAddr .. | .index .. | .extract .. =>true
 | .binOp op t _ _ _=>!(S1 op&&vY P t)
 | .call c=>(match c.callee with
  | .builtin .min| .builtin .max=>true
  | .builtin .len=>AB P c.argTypes
  |_=>false)
 |_=>false
def ij(o:Op):Bool:=!bV o
section
variable {P:Program} {ops:Array Oper}
theorem E7{op:BinOp}{t:TypeId}{x y:Value}{h f:Hp}{C:Value->Prop}(hn:S1 op=true->vY P t=true->False)(k:jG P op t x y h C):jG P op t x y f C:=by
 unfold jG at*;split
 ·rename_i a b;dsimp only at k;unfold Jd at k;split at k
  ·rename_i e g c;exact(hn rfl (by unfold vY;rw[c])).elim
  ·rename_i e g c;exact(hn rfl (by unfold vY;rw[c])).elim
  ·exact k.elim
 ·rename_i d;split at k
  ·rename_i a b;exact(d a b rfl rfl).elim
  ·exact k
theorem rP{o:Op}(a:qN P o=true)(e:Env)(h g:Hp)(C:Value->Prop):dG P o e h C->dG P o e g C:=by
 intro k;cases o
 case call c=>
  obtain⟨callee,args,d⟩:=c;cases callee with
  |builtin b=>
   cases b
   case len=>
    have a:AB P d=true:=a;have k:dJ P .len d.toList (args.toList.map e.ev) h C:=k;show dJ P .len d.toList (args.toList.map e.ev) g C;unfold AB at a;split at a
    ·rename_i t l;rw[l]at k⊢;rcases i:args.toList.map e.ev with _|⟨x,_|⟨y,r⟩⟩
     ·rw[i]at k;exact k
     ·rw[i]at k;have k:mA P t x h C:=k;show mA P t x g C;unfold mA at*;split at a
      ·cases a
      ·rename_i f;split at k
       ·exact k
       ·exact k
       ·exact k
       ·rename_i j _;exact(f _ _ j).elim
       ·rename_i j _;exact(f _ _ j).elim
       ·exact k.elim
     ·rw[i]at k;exact k
    ·cases a
   all_goals first|(rcases args with⟨_|⟨x,_|⟨y,_|⟨z,_|⟨w,r⟩⟩⟩⟩⟩<;>exact k)|(exfalso;revert a;simp[qN])
  |_=>cases a
 case binOp op t x y q=>
  have m:S1 op=true->vY P t=true->False:=λn p=>by
   simp only[qN,n,p,Bool.and_self,Bool.not_true]at a;cases a
  exact E7 m k
 all_goals first|exact k|cases a
theorem nr{o:Op}(a:qN P o=true):ij o=true:=by
 cases o
 case call c=>
  obtain⟨callee,args,d⟩:=c;cases callee with
  |builtin b=>cases b<;>first|rfl|cases a
  |_=>cases a
 all_goals first|rfl|cases a
def bf(P:Program)(ops:Array Oper)(o:Oper)(a:Env)(h:Hp)(K:Env->Hp->Prop):Prop:=
 match o.guard with
 |none=>bK P o.op a h λv b=>K (a.put o.dst v) b
 |some (j,want)=>(match jI ops j with
  |none=>False
  |some t=>(match a t with
   | .bool q=>if q=want then bK P o.op a h (λv b=>K (a.put o.dst v) b)else K (a.put o.dst undef) h
   | .tuple _=>K (a.put o.dst undef) h
   |_=>False))
theorem lf{o:Oper}{l:List Oper}{i:Env}{h:Hp}{N:Env->Hp->Prop}(b:lb P ops (o::l) i h N):bf P ops o i h λf k=>lb P ops l f k N:=by
 unfold lb at b;unfold bf;split at b
 ·rename_i g;(try simp only[g]);exact b
 ·rename_i j want g
  (try simp only[g])
  split at b
  ·exact b.elim
  ·rename_i t m
   (try simp only[m])
   split at b
   ·rename_i q c
    (try simp only[c])
    rcases G0 b with⟨d,a⟩|⟨d,a⟩
    ·have e:q=want:=by simpa using d
     rw[if_pos e];rw[nq (by rw[c,e])]at a;exact a
    ·have e:q=!want:=by cases q<;>cases want<;>simp_all
     rw[if_neg (by rw[e];cases want<;>simp)];rw[nq (by rw[c,e])]at a;exact a
   ·rename_i n c
    (try simp only[c]);exact b
   ·exact b.elim
theorem fv{o:Oper}{c:Env}{h:Hp}{K d:Env->Hp->Prop}(m:∀v b,K (c.put o.dst v) b->d (c.put o.dst v) b)(a:bf P ops o c h K):bf P ops o c h d:=by
 unfold bf at*;split at a
 ·rename_i f;exact(yW _ _ _).mono (λv b=>m v b) a
 ·rename_i j want f;split at a
  ·exact a.elim
  ·rename_i t g;split at a
   ·split at a
    ·rename_i e;rw[if_pos e];exact(yW _ _ _).mono (λv b=>m v b) a
    ·rename_i e;rw[if_neg e];exact m _ _ a
   ·exact m _ _ a
   ·exact a.elim
def looks(ops:Array Oper)(o:Oper):List Nat:=o.looksAt ops
theorem mB{a:Env}{d:Option Nat}{v:Value}{t:Nat}(h:∀x,d=some x->x≠t):(a.put d v) t=a t:=by
 cases d with
 |none=>rfl
 |some x=>simp[Env.put,Env.upd,Ne.symm (h x rfl)]
theorem put_comm{b:Env}{d e:Option Nat}(a:∀x,d=some x->e≠some x)(v u:Value):(b.put d v).put e u=(b.put e u).put d v:=by
 cases d with
 |none=>rfl
 |some x=>
  cases e with
  |none=>rfl
  |some y=>
   have:x≠y:=λq=>a x rfl (q▸rfl)
   funext t;simp only[Env.put,Env.upd];by_cases c:t=y
   ·subst c;simp[Ne.symm this]
   ·simp[c]
theorem Cv{b a:Env}{x:Operand}(h:∀t,x= .tmp t->a t=b t):a.ev x=b.ev x:=by
 cases x with
 |tmp t=>exact h t rfl
 |_=>rfl
theorem lK{o:Op}{v j:Env}(g:∀x∈o.operands,j.ev x=v.ev x)(h:Hp)(K:KH):bK P o j h K=bK P o v h K:=by
 have w:∀A:Array (Nat×Operand),(∀x∈(A.toList.map (·.2)),j.ev x=v.ev x)->(A.toList.map λx=>(x.1,j.ev x.2))=(A.toList.map λx=>(x.1,v.ev x.2)):=λA D=>
  q2y λp E=>by
   rw[D p.2 (q0e.2 ⟨p,E,rfl⟩)]
 have opt:∀x:Option Operand,(∀y,x=some y->j.ev y=v.ev y)->x.map j.ev=x.map v.ev:=λx u=>by
  cases x with
  |none=>rfl
  |some y=>simp[u y rfl]
 have arr:∀xs:Array Operand,(∀y∈xs,j.ev y=v.ev y)->xs.map j.ev=xs.map v.ev:=λxs u=>Array.map_congr_left u
 have B:∀xs:Array Operand,(∀y∈xs,j.ev y=v.ev y)->xs.toList.map j.ev=xs.toList.map v.ev:=λxs u=>q2y λy z=>u y (by simpa using z)
 unfold bK;cases o<;>simp only[Op.operands]at g<;>simp only[bV,nZ,dG,if_true,if_false,q2b]
 case move x=>rw[g x (by simp)]
 case assign x=>rw[g x (by simp)]
 case pick c a b=>rw[g c (by simp),g a (by simp),g b (by simp)]
 case box e x=>rw[g x (by simp)]
 case build t A=>rw[w A λx u=>g x (by simpa using u)]
 case buildSlice t n A=>rw[w A λx u=>g x (by simpa using u)]
 case insert t m k x=>rw[g m (by simp),g k (by simp),g x (by simp)]
 case load t a=>rw[g a (by simp)]
 case store t a x=>rw[g a (by simp),g x (by simp)]
 case nilCheck x=>rw[g x (by simp)]
 case binOp op t x y t'=>rw[g x (by simp),g y (by simp)]
 case unOp op t x=>rw[g x (by simp)]
 case convert s d x=>rw[g x (by simp)]
 case makeFunc fn first captured=>rw[arr first λx u=>g x (by simp[u]),arr captured λx u=>g x (by simp[u])]
 case makeSlice t l c=>rw[g l (by simp),g c (by simp)]
 case makeMap t r=>cases r<;>simp only[nZ]
 case slice t x lo hi mx=>
  rw[g x (by simp),opt lo λy z=>g y (by subst z;simp),opt hi λy z=>g y (by subst z;simp),opt mx λy z=>g y (by subst z;simp)]
 case fieldAddr s x i=>rw[g x (by simp)]
 case field s x i=>rw[g x (by simp)]
 case indexAddr t x i=>rw[g x (by simp),g i (by simp)]
 case index t x i=>rw[g x (by simp),g i (by simp)]
 case lookup t x i ok=>rw[g x (by simp),g i (by simp)]
 case mapUpdate t m k x=>rw[g m (by simp),g k (by simp),g x (by simp)]
 case extract x i=>rw[g x (by simp)]
 case range t x=>rw[g x (by simp)]
 case next x q=>rw[g x (by simp)]
 case entry x=>rw[g x (by simp)]
 case call c=>
  obtain⟨callee,args,F⟩:=c;have C:∀y∈args,j.ev y=v.ev y:=λy z=>g y (by simp[Call.operands,z])
  cases callee with
  |value f=>
   (try simp only[qL,if_true,nZ])
   rw[arr args C,g f (by simp[Call.operands])]
  |invoke r m=>simp only[qL,dG,q2b,if_false]
  |builtin b=>
   (try simp only[nZ,dG])
   rw[B args C]
theorem oB{o:Oper}{d:Option Nat}(k:∀x,d=some x->x∉looks ops o)(hd:∀x,d=some x->o.dst≠some x)(a:Env)(u:Value)(h:Hp)(K:Env->Hp->Prop):
 bf P ops o (a.put d u) h K=bf P ops o a h λg m=>K (g.put d u) m:=by
 have c:∀x∈o.op.operands,(a.put d u).ev x=a.ev x:=λx n=>Cv λt f=>mB λy i e=>k y i (by
  subst f e;exact q2d _ (q2p.2 ⟨.tmp y,by simpa using n,rfl⟩))
 have l:∀v,(a.put d u).put o.dst v=(a.put o.dst v).put d u:=λv=>put_comm hd u v
 unfold bf;cases p:o.guard with
 |none=>
  dsimp only;rw[lK c]
  (try simp only[l])
 |some q=>
  obtain⟨j,want⟩:=q;dsimp only;cases f:jI ops j with
  |none=>rfl
  |some t=>
   dsimp only
   have b:(a.put d u) t=a t:=mB λy i e=>k y i (by
    subst e;unfold jI at f;simp[looks,Oper.looksAt,p,f])
   rw[b,lK c]
   (try simp only[l])
theorem oC{o:Oper}(p:ij o.op=true){c:Env}{h:Hp}{K n:Env->Hp->Prop}(b:bf P ops o c h K)(a:bf P ops o c h n):
 ∃u,K (c.put o.dst u) h/\n (c.put o.dst u) h/\∀L:Env->Hp->Prop,L (c.put o.dst u) h->bf P ops o c h L:=by
 have r:bV o.op=false:=by simpa[ij]using p
 have red:∀(F:KH),bK P o.op c h F=dG P o.op c h λv=>F v h:=λF=>by unfold bK;rw[r];rfl
 unfold bf at*;split at b
 ·rename_i f;simp only[f]at a;rw[red]at b a;obtain⟨u,g,i,k⟩:=(gZ _ _ _).both b a;refine⟨u,g,i,λL d=>?_⟩;rw[red];exact(gZ _ _ _).mono (λv (l:v=u)=>by rw[l];exact d) k
 ·rename_i j want f;simp only[f]at a;split at b
  ·exact b.elim
  ·rename_i t s;simp only[s]at a;split at b
   ·rename_i q m;simp only[m]at a;split at b
    ·rename_i e;rw[if_pos e]at a;rw[red]at b a;obtain⟨u,g,i,k⟩:=(gZ _ _ _).both b a;refine⟨u,g,i,λL d=>?_⟩;rw[if_pos e,red];exact(gZ _ _ _).mono (λv (l:v=u)=>by rw[l];exact d) k
    ·rename_i e;rw[if_neg e]at a;exact⟨undef,b,a,λL d=>by rw[if_neg e];exact d⟩
   ·rename_i w m;simp only[m]at a;exact⟨undef,b,a,λL d=>d⟩
   ·exact b.elim
def tD(P:Program):Op->Bool
 | .convert s d _=>(match P.underlying s,P.underlying d with
  |some (.int _),some (.int _)=>true
  |_,_=>false)
 |_=>false
theorem vl{o:Op}(c:tD P o=true){e:Env}{h:Hp}{F i:KH}(b:bK P o e h F)(a:bK P o e h i):∃u,F u h/\i u h/\∀G:KH,G u h->bK P o e h G:=by
 cases o
 case convert s d x=>
  have red:∀G:KH,bK P (.convert s d x) e h G=iB P s d (e.ev x) h G:=λG=>rfl
  rw[red]at b a;unfold tD at c;dsimp only at c;split at c
  ·rename_i l m f g;unfold iB at b a;split at b
   ·rename_i q n j;simp only[j,f,g]at b a;refine⟨_,b,a,λG k=>?_⟩;rw[red];unfold iB
    (try simp only[j,f,g])
    exact k
   ·simp only[f,g]at b
   ·simp only[f,g]at b
   ·exact b.elim
  ·cases c
 all_goals cases c
theorem Cw{o:Oper}(m:tD P o.op=true){d:Env}{h:Hp}{K n:Env->Hp->Prop}(b:bf P ops o d h K)(a:bf P ops o d h n):
 ∃u,K (d.put o.dst u) h/\n (d.put o.dst u) h/\∀L:Env->Hp->Prop,L (d.put o.dst u) h->bf P ops o d h L:=by
 unfold bf at*;split at b
 ·rename_i f;simp only[f]at a;obtain⟨u,g,i,k⟩:=vl m b a;refine⟨u,g,i,λL c=>?_⟩;exact k _ c
 ·rename_i j want f;simp only[f]at a;split at b
  ·exact b.elim
  ·rename_i t p;simp only[p]at a;split at b
   ·rename_i q l;simp only[l]at a;split at b
    ·rename_i e;rw[if_pos e]at a;obtain⟨u,g,i,k⟩:=vl m b a;refine⟨u,g,i,λL c=>?_⟩;rw[if_pos e];exact k _ c
    ·rename_i e;rw[if_neg e]at a;exact⟨undef,b,a,λL c=>by rw[if_neg e];exact c⟩
   ·rename_i r l;simp only[l]at a;exact⟨undef,b,a,λL c=>c⟩
   ·exact b.elim
theorem E8{o:Oper}(d:qN P o.op=true){b:Env}{h:Hp}(c:Hp){K:Env->Hp->Prop}(a:bf P ops o b h λf _=>K f c):bf P ops o b c K:=by
 have i:bV o.op=false:=by simpa[ij]using nr d
 have red:∀(g:Hp) (F:KH),bK P o.op b g F=dG P o.op b g λv=>F v g:=λg F=>by unfold bK;rw[i];rfl
 unfold bf at*;split at a
 ·rw[red]at a⊢;exact rP d b h c _ a
 ·rename_i j want k;split at a
  ·exact a.elim
  ·rename_i t l;split at a
   ·split at a
    ·rename_i e;rw[if_pos e,red];rw[red]at a;exact rP d b h c _ a
    ·rename_i e;rw[if_neg e];exact a
   ·exact a
   ·exact a.elim
def jj(P:Program)(ops:Array Oper)(o:Oper)(a:Env)(h:Hp)(M:Value->Hp->Prop):Prop:=
 match o.guard with
 |none=>bK P o.op a h M
 |some (j,want)=>(match jI ops j with
  |none=>False
  |some t=>(match a t with
   | .bool q=>if q=want then bK P o.op a h M else M undef h
   | .tuple _=>M undef h
   |_=>False))
theorem pO(o:Oper)(a:Env)(h:Hp)(K:Env->Hp->Prop):bf P ops o a h K=jj P ops o a h λv b=>K (a.put o.dst v) b:=rfl
theorem vZ{o:Oper}{d a:Env}(f:∀t∈looks ops o,a t=d t)(h:Hp)(M:Value->Hp->Prop):jj P ops o a h M=jj P ops o d h M:=by
 have c:∀x∈o.op.operands,a.ev x=d.ev x:=λx g=>Cv λt e=>f t (by
  subst e;exact q2d _ (q2p.2 ⟨.tmp t,by simpa using g,rfl⟩))
 unfold jj;cases i:o.guard with
 |none=>dsimp only;rw[lK c]
 |some q=>
  obtain⟨j,want⟩:=q;dsimp only;cases e:jI ops j with
  |none=>rfl
  |some t=>
   dsimp only
   have b:a t=d t:=f t (by
    unfold jI at e;simp[looks,Oper.looksAt,i,e])
   rw[b,lK c]
theorem E9{o:Oper}(p:ij o.op=true){d:Env}{h:Hp}{M n:Value->Hp->Prop}(b:jj P ops o d h M)(a:jj P ops o d h n):
 ∃u,M u h/\n u h/\∀L:Value->Hp->Prop,L u h->jj P ops o d h L:=by
 have r:bV o.op=false:=by simpa[ij]using p
 have red:∀(F:KH),bK P o.op d h F=dG P o.op d h λv=>F v h:=λF=>by unfold bK;rw[r];rfl
 unfold jj at*;split at b
 ·rename_i f;simp only[f]at a;rw[red]at b a;obtain⟨u,g,i,k⟩:=(gZ _ _ _).both b a;refine⟨u,g,i,λL c=>?_⟩;rw[red];exact(gZ _ _ _).mono (λv (l:v=u)=>by rw[l];exact c) k
 ·rename_i j want f;simp only[f]at a;split at b
  ·exact b.elim
  ·rename_i t s;simp only[s]at a;split at b
   ·rename_i q m;simp only[m]at a;split at b
    ·rename_i e;rw[if_pos e]at a;rw[red]at b a;obtain⟨u,g,i,k⟩:=(gZ _ _ _).both b a;refine⟨u,g,i,λL c=>?_⟩;rw[if_pos e,red];exact(gZ _ _ _).mono (λv (l:v=u)=>by rw[l];exact c) k
    ·rename_i e;rw[if_neg e]at a;exact⟨undef,b,a,λL c=>by rw[if_neg e];exact c⟩
   ·rename_i w m;simp only[m]at a;exact⟨undef,b,a,λL c=>c⟩
   ·exact b.elim
theorem Jo{o:Oper}(d:qN P o.op=true){b:Env}{h:Hp}(c:Hp){M:Value->Hp->Prop}(a:jj P ops o b h λv _=>M v c):jj P ops o b c M:=by
 have f:bV o.op=false:=by simpa[ij]using nr d
 have red:∀(g:Hp) (F:KH),bK P o.op b g F=dG P o.op b g λv=>F v g:=λg F=>by unfold bK;rw[f];rfl
 unfold jj at*;split at a
 ·rw[red]at a⊢;exact rP d b h c _ a
 ·rename_i j want i;split at a
  ·exact a.elim
  ·rename_i t k;split at a
   ·split at a
    ·rename_i e;rw[if_pos e,red];rw[red]at a;exact rP d b h c _ a
    ·rename_i e;rw[if_neg e];exact a
   ·exact a
   ·exact a.elim
theorem AD{o:Op}(b:tD P o=true){c:Env}{h i:Hp}{F:KH}(a:bK P o c h λv _=>F v i):bK P o c i F:=by
 cases o
 case convert s d x=>
  have red:∀(g:Hp) (G:KH),bK P (.convert s d x) c g G=iB P s d (c.ev x) g G:=λ_ _=>rfl
  rw[red]at a⊢;unfold tD at b;dsimp only at b;split at b
  ·rename_i k l e f;unfold iB at a⊢;split at a
   ·rename_i q n j;simp only[j,e,f]at a⊢;exact a
   ·simp only[e,f]at a
   ·simp only[e,f]at a
   ·exact a.elim
  ·cases b
 all_goals cases b
theorem Jp{o:Oper}(c:tD P o.op=true){d:Env}{h:Hp}(f:Hp){K:Env->Hp->Prop}(a:bf P ops o d h λb _=>K b f):bf P ops o d f K:=by
 unfold bf at*;split at a
 ·exact AD c a
 ·rename_i j want g;split at a
  ·exact a.elim
  ·rename_i t i;split at a
   ·split at a
    ·rename_i e;rw[if_pos e];exact AD c a
    ·rename_i e;rw[if_neg e];exact a
   ·exact a
   ·exact a.elim
theorem Ly{o:Oper}(b:tD P o.op=true){c:Env}{h:Hp}(d:Hp){M:Value->Hp->Prop}(a:jj P ops o c h λv _=>M v d):jj P ops o c d M:=by
 unfold jj at*;split at a
 ·exact AD b a
 ·rename_i j want f;split at a
  ·exact a.elim
  ·rename_i t g;split at a
   ·split at a
    ·rename_i e;rw[if_pos e];exact AD b a
    ·rename_i e;rw[if_neg e];exact a
   ·exact a
   ·exact a.elim
def n5(P:Program)(o:Op):Bool:=qN P o||tD P o
theorem Cx{o:Oper}(b:n5 P o.op=true){d:Env}{h:Hp}(a:Hp){K:Env->Hp->Prop}(e:bf P ops o d h λc _=>K c a):bf P ops o d a K:=by
 unfold n5 at b;rw[q1c]at b;exact b.elim (λq=>E8 q a e) (λq=>Jp q a e)
theorem Fa{o:Oper}(b:n5 P o.op=true){c:Env}{h:Hp}(a:Hp){M:Value->Hp->Prop}(d:jj P ops o c h λv _=>M v a):jj P ops o c a M:=by
 unfold n5 at b;rw[q1c]at b;exact b.elim (λq=>Jo q a d) (λq=>Ly q a d)
theorem Jq{o:Oper}(e:ij o.op=true∨tD P o.op=true){a:Env}{h:Hp}{K c:Env->Hp->Prop}(d:bf P ops o a h K)(b:bf P ops o a h c):
 ∃u,K (a.put o.dst u) h/\c (a.put o.dst u) h/\∀L:Env->Hp->Prop,L (a.put o.dst u) h->bf P ops o a h L:=e.elim (λq=>oC q d b) λq=>Cw q d b
theorem Lz{o:Oper}(m:tD P o.op=true){d:Env}{h:Hp}{M n:Value->Hp->Prop}(b:jj P ops o d h M)(a:jj P ops o d h n):
 ∃u,M u h/\n u h/\∀L:Value->Hp->Prop,L u h->jj P ops o d h L:=by
 unfold jj at*;split at b
 ·rename_i f;simp only[f]at a;obtain⟨u,g,i,k⟩:=vl m b a;refine⟨u,g,i,λL c=>?_⟩;exact k _ c
 ·rename_i j want f;simp only[f]at a;split at b
  ·exact b.elim
  ·rename_i t p;simp only[p]at a;split at b
   ·rename_i q l;simp only[l]at a;split at b
    ·rename_i e;rw[if_pos e]at a;obtain⟨u,g,i,k⟩:=vl m b a;refine⟨u,g,i,λL c=>?_⟩;rw[if_pos e];exact k _ c
    ·rename_i e;rw[if_neg e]at a;exact⟨undef,b,a,λL c=>by rw[if_neg e];exact c⟩
   ·rename_i r l;simp only[l]at a;exact⟨undef,b,a,λL c=>c⟩
   ·exact b.elim
theorem Cy{o:Oper}(b:n5 P o.op=true){c:Env}{h:Hp}{M d:Value->Hp->Prop}(e:jj P ops o c h M)(a:jj P ops o c h d):∃u,M u h/\d u h/\∀L:Value->Hp->Prop,L u h->jj P ops o c h L:=by
 unfold n5 at b;rw[q1c]at b;exact b.elim (λq=>E9 (nr q) e a) λq=>Lz q e a
theorem LA{o:Oper}{c:Env}{h:Hp}{M:Value->Hp->Prop}(a:jj P ops o c h M){w:World}(hi:Is w h):∃v b w',Is w' b/\M v b:=by
 have st:bK P o.op c h M->∃v b w',Is w' b/\M v b:=λk=>by
  have hr:=jH k hi;generalize (execOp c.ev o).run P w=r at hr;cases hr with
  |value v w' b i s m=>exact⟨v,b,w',i,m⟩
  |skip w' b i s m=>exact⟨undef,b,w',i,m⟩
  |enter f args w' b i s m=>
   obtain⟨e,d,fr,⟨v,g,_,j,_,l⟩,_⟩:=m w' i [];exact⟨v,g,d,j,l⟩
 unfold jj at a;split at a
 ·exact st a
 ·split at a
  ·exact a.elim
  ·split at a
   ·split at a
    ·exact st a
    ·exact⟨_,h,w,hi,a⟩
   ·exact⟨_,h,w,hi,a⟩
   ·exact a.elim
def fq(P:Program)(ops:Array Oper):List Nat->Env->Hp->(Env->Hp->Prop)->Prop
 | [],a,h,N=>N a h
 |i::l,a,h,N=>(match ops[i]? with
  |none=>fq P ops l a h N
  |some o=>bf P ops o a h λb c=>fq P ops l b c N)
theorem Cz(N:Env->Hp->Prop):∀(l:List Oper) (k:Nat),(∀j,l[j]?=ops[k+j]?)->∀a h,lb P ops l a h N->fq P ops (List.range' k l.length) a h N
 | [],_,_,_,_,b=>b
 |o::l,k,c,a,h,b=>by
  have d:ops[k]?=some o:=by simpa using (c 0).symm
  simp only[Z9,List.range'_succ,fq,d];exact fv (λv f e=>Cz N l (k+1) (λj=>by have:=c (j+1);simpa[q1m,q4q 1 j]using this) _ _ e) (lf b)
def LB:Op->Bool
 | .load .. | .lookup .. =>true
 |_=>false
def Jr:Op->Bool
 | .buildSlice .. | .alloc _| .makeMap _ none=>true
 |_=>false
theorem G3{o:Op}(i:Jr o=true){c:Env}{h:Hp}{F j:KH}(b:bK P o c h F)(a:bK P o c h j):∃u g,F u g/\j u g/\∀G:KH,G u g->bK P o c h G:=by
 cases o
 case buildSlice t len parts=>
  have red:∀G:KH,bK P (.buildSlice t len parts) c h G=(match dX P t len (parts.toList.map λx=>(x.1,c.ev x.2))with
   |some (e,r)=>G (.slice (some ⟨h.n,0,none⟩) len len) ((h.put h.n (.cells r e (0,0))).to (h.n+1))
   |none=>False):=λG=>rfl
  rw[red]at b a;split at b
  ·rename_i e r d;simp only[d]at a;exact⟨_,_,b,a,λG f=>by rw[red];simp only[d];exact f⟩
  ·exact b.elim
 case alloc e=>
  have red:∀G:KH,bK P (.alloc e) c h G=(match cZ P e with
   |some z=>G (.pointer (some ⟨h.n,0,none⟩)) ((h.put h.n (.cells z.cells e (0,0))).to (h.n+1))
   |none=>False):=λG=>rfl
  rw[red]at b a;split at b
  ·rename_i z d;simp only[d]at a;exact⟨_,_,b,a,λG f=>by rw[red];simp only[d];exact f⟩
  ·exact b.elim
 case makeMap t n=>
  cases n with
  |none=>exact⟨.map (some h.n),(h.put h.n (.map #[] 0)).to (h.n+1),b,a,λG f=>f⟩
  |some x=>cases i
 all_goals cases i
theorem Js{o:Oper}(n:Jr o.op=true){f:Env}{h:Hp}{K p:Env->Hp->Prop}(b:bf P ops o f h K)(a:bf P ops o f h p):
 ∃u c,K (f.put o.dst u) c/\p (f.put o.dst u) c/\∀L:Env->Hp->Prop,L (f.put o.dst u) c->bf P ops o f h L:=by
 unfold bf at*;split at b
 ·rename_i g;simp only[g]at a;obtain⟨u,c,i,k,l⟩:=G3 n b a;refine⟨u,c,i,k,λL d=>?_⟩;exact l _ d
 ·rename_i j want g;simp only[g]at a;split at b
  ·exact b.elim
  ·rename_i t r;simp only[r]at a;split at b
   ·rename_i q m;simp only[m]at a;split at b
    ·rename_i e;rw[if_pos e]at a;obtain⟨u,c,i,k,l⟩:=G3 n b a;refine⟨u,c,i,k,λL d=>?_⟩;rw[if_pos e];exact l _ d
    ·rename_i e;rw[if_neg e]at a;exact⟨undef,h,b,a,λL d=>by rw[if_neg e];exact d⟩
   ·rename_i s m;simp only[m]at a;exact⟨undef,h,b,a,λL d=>d⟩
   ·exact b.elim
def n6(P:Program)(ops:Array Oper)(j i:Nat):Bool:=match ops[j]?,ops[i]? with
 |some a,some b=>a.apart ops b&&(n5 P a.op||n5 P b.op||(ij a.op&&ij b.op)||(LB a.op&&Jr b.op))
 |_,_=>true
def Ext(h a:Hp):Prop:=∀b o,h.f b=some o->a.f b=some o
theorem LC{t:TypeId}{a:Value}{h e:Hp}{K:Value->Prop}(g:Ext h e)(c:kZ P t a h K):kZ P t a e K:=by
 unfold kZ at*;split at c
 ·rename_i b o;cases d:h.f b with
  |none=>simp only[d]at c
  |some x=>
   simp only[d]at c
   (try simp only[g b x d])
   exact c
 ·exact c.elim
theorem Fb{t:TypeId}{m k:Value}{ok:Bool}{h a:Hp}{K:Value->Prop}(g:Ext h a)(c:fO P t m k ok h K):fO P t m k ok a K:=by
 have i:∀l,tB h m=some l->tB a m=some l:=λl e=>by
  unfold tB at*;split at e
  ·exact e
  ·rename_i b;cases d:h.f b with
   |none=>simp only[d]at e;cases e
   |some x=>
    simp only[d]at e
    (try simp only[g b x d])
    exact e
  ·cases e
 have j:∀v,ky P t m k ok h=some v->ky P t m k ok a=some v:=λv e=>by
  simp only[ky,q2a]at e⊢;obtain⟨x,n,l,o,p⟩:=e;exact⟨x,n,l,i l o,p⟩
 unfold fO at*;split at c
 ·rename_i v q;rw[j v q];exact c
 ·exact c.elim
theorem Pn{o:Oper}(l:LB o.op=true){b:Env}{h d:Hp}{u:Value}(n:Ext h d)(p:∀L:Env->Hp->Prop,L (b.put o.dst u) h->bf P ops o b h L)(L:Env->Hp->Prop)(f:L (b.put o.dst u) d):bf P ops o b d L:=by
 have hk:=p (λi _=>i=b.put o.dst u) rfl
 have main:(∀(g:Hp) (F:KH),bK P o.op b g F=dG P o.op b g λv=>F v g)->(∀K:Value->Prop,dG P o.op b h K->dG P o.op b d K)->bf P ops o b d L:=λred j=>by
  have up:dG P o.op b h (λv=>b.put o.dst v=b.put o.dst u)->dG P o.op b d λv=>L (b.put o.dst v) d:=λk=>
   (gZ _ _ _).mono (λv e=>by rw[e];exact f) (j _ k)
  unfold bf at*;split at hk
  ·rw[red]at hk⊢;exact up hk
  ·split at hk
   ·exact hk.elim
   ·split at hk
    ·split at hk
     ·rename_i e;rw[if_pos e,red];rw[red]at hk;exact up hk
     ·rename_i e;rw[if_neg e,hk];exact f
    ·rw[hk];exact f
    ·exact hk.elim
 cases c:o.op with
 |load t a=>exact main (λg F=>by rw[c];rfl) (λK k=>by rw[c]at k⊢;exact LC n k)
 |lookup t m k ok=>exact main (λg F=>by rw[c];rfl) (λK k=>by rw[c]at k⊢;exact Fb n k)
 |_=>rw[c]at l;cases l
theorem LD{o:Oper}(j:Jr o.op=true){g:Env}{h:Hp}{K:Env->Hp->Prop}(m:∀b x,h.f b=some x->b<h.n)(c:bf P ops o g h K):bf P ops o g h λi d=>K i d/\Ext h d:=by
 have GV:Ext h h:=λ_ _ e=>e
 have ext:∀x,Ext h ((h.put h.n x).to (h.n+1)):=λx b y l=>by
  have:=m b y l;show(if b=h.n then _ else h.f b)=some y;rw[if_neg (by omega)];exact l
 have main:(bK P o.op g h (λv d=>K (g.put o.dst v) d)->bK P o.op g h λv d=>K (g.put o.dst v) d/\Ext h d)->bf P ops o g h λi d=>K i d/\Ext h d:=λst=>by
  unfold bf at*;split at c
  ·exact st c
  ·split at c
   ·exact c.elim
   ·split at c
    ·split at c
     ·rename_i e;rw[if_pos e];exact st c
     ·rename_i e;rw[if_neg e];exact⟨c,GV⟩
    ·exact⟨c,GV⟩
    ·exact c.elim
 cases a:o.op with
 |buildSlice t len parts=>
  refine main λk=>?_
  rw[a]at k⊢;unfold bK at*;simp only[bV,if_true,nZ]at*;split at k
  ·exact⟨k,ext _⟩
  ·exact k.elim
 |alloc e=>
  refine main λk=>?_
  rw[a]at k⊢;unfold bK at*;simp only[bV,if_true,nZ,qI,Jc]at*;split at k
  ·exact⟨k,ext _⟩
  ·exact k.elim
 |makeMap t n=>
  cases n with
  |none=>
   refine main λk=>?_
   rw[a]at k⊢;exact⟨k,ext _⟩
  |some x=>rw[a]at j;cases j
 |_=>rw[a]at j;cases j
theorem Fc{N:Env->Hp->Prop}(l:List Nat):∀(r:List Nat) (d:Env) (h:Hp) (w:World),fq P ops (r++l) d h N->Is w h->
 ∃b f,fq P ops l b f N/\∀t,(∀j∈r,∀a,ops[j]?=some a->a.dst≠some t)->b t=d t
 | [],d,h,w,c,_=>⟨d,h,c,λ_ _=>rfl⟩
 |j::r,d,h,w,c,hi=>by
  simp only[q1q,fq]at c;split at c
  ·obtain⟨b,f,k,m⟩:=Fc l r d h w c hi;exact⟨b,f,k,λt g=>m t λi hi=>g i (by simp[hi])⟩
  ·rename_i a p;rw[pO]at c;obtain⟨v,k,q,n,o⟩:=LA c hi;obtain⟨b,f,m,s⟩:=Fc l r _ k q o n;refine⟨b,f,m,λt g=>(s t λi hi=>g i (by simp[hi])).trans (mB λx u e=>g j (by simp) a p (by rw[u,e]))⟩
theorem yX{N:Env->Hp->Prop}{i:Nat}{o:Oper}(ho:ops[i]?=some o)(y:n5 P o.op=true){ρ0:Env}{u:Value}(z:∀h (L:Value->Hp->Prop),L u h->jj P ops o ρ0 h L)(l:List Nat):
 ∀(r:List Nat),(∀j∈r,n6 P ops j i=true)->∀(c:Env) (h:Hp),(∀t∈looks ops o,c t=ρ0 t)->fq P ops (r++i::l) c h N->fq P ops (r++l) (c.put o.dst u) h N
 | [],_,c,h,m,b=>by
  simp only[q2f,fq,ho]at b⊢;rw[pO,vZ m]at b;obtain⟨v,n,p,_⟩:=Cy y b (z h (λv _=>v=u) rfl);rw[p]at n;exact n
 |j::r,A,c,h,m,b=>by
  simp only[q1q,fq]at b⊢;have B:=yX (N:=N) ho y z l r λk b=>A k (by simp[b])
  split at b
  ·exact B c h m b
  ·rename_i a D;have f:=A j (by simp);simp only[n6,D,ho,Z7]at f;obtain⟨n,p,E⟩:=Oper.apart_spec f.1
   have q:bf P ops a c h λs w=>fq P ops (r++l) (s.put o.dst u) w N:=
    fv (λv w F=>B _ w (λt C=>(mB λx g e=>n x g (by rw[e];exact C)).trans (m t C)) F) b
   rw[oB (o:=a) (d:=o.dst) (λx g=>E x g) (λx g e=>p x e g)];exact q
theorem wa{N:Env->Hp->Prop}{i:Nat}{o:Oper}(ho:ops[i]?=some o)(D:List Nat):∀(r:List Nat),(∀j∈r,n6 P ops j i=true)->n5 P o.op=false->∀(t:Env) (h:Hp),(∀b x,h.f b=some x->b<h.n)->
 fq P ops (r++i::D) t h N->bf P ops o t h λw g=>fq P ops (r++D) w g N
 | [],_,_,t,h,_,p=>by simpa[fq,ho]using p
 |j::r,R,A,t,h,F,p=>by
  have S:=wa (N:=N) ho D r (λk p=>R k (by simp[p])) A;simp only[q1q,fq]at p⊢;cases G:ops[j]? with
  |none=>
   simp only[G]at p⊢;exact S t h F p
  |some a=>
   simp only[G]at p⊢;have q:=R j (by simp);simp only[n6,G,ho,Z7,A,Bool.or_false,q1c]at q;obtain⟨T,B,U⟩:=Oper.apart_spec q.1
   have H:ij a.op=true∨tD P a.op=true:=by
    rcases q.2 with(l|y)|s
    ·unfold n5 at l;rw[q1c]at l;exact l.imp nr id
    ·exact .inl y.1
    ·exact .inl (by cases I:a.op<;>first|rfl|(rw[I]at s;cases s.1))
   obtain⟨u,J,_,z⟩:=Jq H p p;have m:=S _ h F J;have C:=oB (P:=P) (ops:=ops) (o:=o) (d:=a.dst) (λx c=>T x c) (λx c=>B x c) t u h λK V=>fq P ops (r++D) K V N
   rw[C]at m
   have back:∀v (g:Hp) (L:Env->Hp->Prop),bf P ops a t g (λw g=>L (w.put o.dst v) g)->bf P ops a (t.put o.dst v) g L:=λv g L k=>by
    rw[oB (o:=a) (d:=o.dst) (λx c=>U x c) (λx c e=>B x e c)];exact k
   rcases q.2 with(l|⟨_,y⟩)|⟨s,M⟩
   ·refine fv (λv g E=>back v g _ ?_) m;refine Cx l g (h:=h) (z _ ?_);rw[put_comm (λx c=>B x c)];exact E
   ·obtain⟨v,O,_,Q⟩:=oC y m m;refine Q _ (back v h _ (z _ ?_));rw[put_comm (λx c=>B x c)];exact O
   ·refine fv (λv g E=>back v g _ (Pn s E.2 z _ ?_)) (LD M F m);rw[put_comm (λx c=>B x c)];exact E.1
theorem R2 {N:Env->Hp->Prop} {i:Nat} {o:Oper} (ho:ops[i]?=some o) (r f:List Nat) (p:∀j∈r,n6 P ops j i=true) {c:Env} {h:Hp} {w:World} (hi:Is w h)
 (q:fq P ops (r++i::f) c h N):bf P ops o c h λd y=>fq P ops (r++f) d y N:=by
 cases m:n5 P o.op with
 |false=>exact wa ho f r p m c h (λb x e=>by rw[<-hi.1];exact(q0f.1 (hi.2 b x e)).1) q
 |true=>
  obtain⟨d,y,n,z⟩:=Fc (i::f) r c h w q hi;simp only[fq,ho]at n
  have A:∀t∈looks ops o,d t=c t:=λt B=>z t λj C a s e=>by
   have k:=p j C;simp only[n6,s,ho,Z7]at k;exact(Oper.apart_spec k.1).1 t e B
  rw[pO,vZ A]at n;obtain⟨u,_,_,D⟩:=Cy m n n;have l:∀g (L:Value->Hp->Prop),L u g->jj P ops o c g L:=λg L E=>Fa m g (D (λv _=>L v g) E)
  rw[pO];exact l h _ (yX ho m l f r p c h (λ_ _=>rfl) q)
def oi(ops:Array Oper):Nat->Nat->Nat->Bool
 |0,_,_=>false
 |f+1,j,i=>(match ops[i]? with
  |some o=>o.after.any λe=>Region.binds .any e&&(e.on==j||oi ops f j e.on)
  |none=>false)
def CA(P:Program)(ops:Array Oper):Bool:=
 (List.range ops.size).all λi=>(match ops[i]? with
  |some o=>o.after.all λe=>!Region.binds .any e||decide (e.on<i)
  |none=>true)&&(List.range i).all λj=>n6 P ops j i||oi ops 4 j i
def Down(ops:Array Oper)(a:Array Bool):Prop:=∀i o,ops[i]?=some o->a.getD i false=true->∀e∈o.after,Region.binds .any e=true->a.getD e.on false=true
theorem iC{a:Array Bool}(hd:Down ops a){j:Nat}:∀(f i:Nat),(∀o,ops[i]?=some o->∀e∈o.after,Region.binds .any e=true->a.getD e.on false=true)->oi ops f j i=true->a.getD j false=true
 |0,_,_,b=>by simp[oi]at b
 |f+1,i,hi,b=>by
  unfold oi at b;split at b
  ·rename_i o ho;obtain⟨e,m,c⟩:=Array.any_eq_true'.1 b;simp only[Z7,q1c,beq_iff_eq]at c;have l:=hi o ho e m c.1;rcases c.2 with d|d
   ·exact d▸l
   ·exact iC hd f e.on (λn g p h k=>hd e.on n g l p h k) d
  ·cases b
theorem wb {n:Nat} {ds:List Nat} {ρ0 f:Env} {w0 w:World} {h:Hp} {a:Act} {i:Nat} {o:Oper} {K:Act->World->Prop} {N:Env->Hp->Prop} {Q:Exit->Act->World->Prop} (ho:ops[i]?=some o)
 (hd:∀t,o.dst=some t->t<n/\ds.contains t=true) (b:bf P ops o f h N) (g:Rel n a f) (s:gI ds ρ0 f) (hi:Is w h) (u:bO w0 w)
 (hn:∀a w f h,Rel n a f->gI ds ρ0 f->Is w h->bO w0 w->N f h->K a w):wpOp P ops Q i K a w:=by
 have c:∀t,o.dst=some t->t<n:=λt e=>(hd t e).1
 have d:∀t,o.dst=some t->ds.contains t=true:=λt e=>(hd t e).2
 unfold wpOp
 (try simp only[ho])
 unfold bf at b;split at b
 ·rename_i p;rw[if_pos (by simp[Region.wanted,p])];exact .inl (Ran.wp (w0:=w0) (g.eval▸jH b hi) u λv y z k l m=>hn _ _ _ _ (g.put c v) (s.put d v) k l m)
 ·rename_i j want p;split at b
  ·exact b.elim
  ·rename_i t A;have r:=qM g ops A;split at b
   ·rename_i q x;rw[x]at r;split at b
    ·rename_i e;subst e;rw[if_pos (by simp[Region.wanted,p,r])];exact .inl (Ran.wp (w0:=w0) (g.eval▸jH b hi) u λv y z k l m=>hn _ _ _ _ (g.put c v) (s.put d v) k l m)
    ·rename_i e;have:q=!want:=by cases q<;>cases want<;>simp_all
     subst this;rw[if_neg (by simp[Region.wanted,p,r])];exact hn _ _ _ _ (g.put c undef) (s.put d undef) hi u b
   ·rename_i B x;rw[x]at r;rw[if_neg (by simp[Region.wanted,p,r])];exact hn _ _ _ _ (g.put c undef) (s.put d undef) hi u b
   ·exact b.elim
theorem mem_ready{a:Array Bool}{i:Nat}:i∈Region.ready .any ops a<->i<ops.size/\a.getD i true=false/\∃o,ops[i]?=some o/\∀e∈o.after,Region.binds .any e=true->a.getD e.on false=true:=by
 unfold Region.ready;rw[q1b,q2m];cases h:ops[i]? with
 |none=>simp
 |some o=>
  simp only[q0h,Option.getD_some,Z7,q2x,q1z,exists_eq_left',Array.all_eq_true',q1c,and_congr_right_iff];intro _ _
  exact⟨λk e b c=>(k e b).resolve_left (by simp[c]),λk e b=>by
   cases c:Region.binds .any e with
   |false=>exact .inl rfl
   |true=>exact .inr (k e b c)⟩
theorem lg{a:Array Bool}{i j:Nat}{d:Bool}(hi:i<a.size):(a.setIfInBounds i true).getD j d=if j=i then true else a.getD j d:=by
 simp only[q2k,Array.getElem?_setIfInBounds];by_cases h:i=j
 ·subst h;simp[hi]
 ·simp[h,Ne.symm h]
theorem LF {n:Nat} {ds:List Nat} {ρ0:Env} {w0:World} {N:Env->Hp->Prop} {Q:Exit->Act->World->Prop} (L:CA P ops=true) (hd:∀o∈ops.toList,∀t,o.dst=some t->t<n/\ds.contains t=true)
 (hQ:∀a w x h,Rel n a x->gI ds ρ0 x->Is w h->bO w0 w->N x h->Q .normal a w):
 ∀(fuel:Nat) (l:List Nat) (b:Array Bool) (x:Env) (h:Hp) (a:Act) (w:World),l.length=fuel->b.size=ops.size->l.Pairwise (·<·)->(∀i,i∈l<->i<ops.size/\b.getD i false=false)->Down ops b->
  fq P ops l x h N->Rel n a x->gI ds ρ0 x->Is w h->bO w0 w->wpAny P .any ops Q fuel b a w:=by
 have z:∀i o,ops[i]?=some o->(∀e∈o.after,Region.binds .any e=true->e.on<i)/\∀j,j<i->n6 P ops j i=true∨oi ops 4 j i=true:=λi o ho=>by
  have m:i<ops.size:=(q0f.1 ho).1;have:=q0a.1 L i (by simpa using m);rw[Z7]at this;obtain⟨p,J⟩:=this;simp only[ho]at p;refine⟨λe A B=>?_,λj g=>?_⟩
  ·have:=Array.all_eq_true'.1 p e A;simpa[B]using this
  ·simpa using q0a.1 J j (by simpa using g)
 have q:∀{b:Array Bool},b.size=ops.size->∀i,i<ops.size->b.getD i true=b.getD i false:=λc i hi=>by
  simp[Array.getD,c,hi]
 have empty:∀(l:List Nat) (b:Array Bool),b.size=ops.size->l.Pairwise (·<·)->(∀i,i∈l<->i<ops.size/\b.getD i false=false)->Region.ready .any ops b=[]->l=[]:=λl b c d y H=>by
  cases l with
  |nil=>rfl
  |cons i l=>
   exfalso;have hi:=(y i).1 (by simp)
   have:i∈Region.ready .any ops b:=mem_ready.2 ⟨hi.1,(q c i hi.1).trans hi.2,ops[i]'hi.1,q1a hi.1,λe A B=>by
    have m:=(z i _ (q1a hi.1)).1 e A B;cases C:b.getD e.on false with
    |true=>rfl
    |false=>
     have s:=(y e.on).2 ⟨by have:=hi.1;omega,C⟩;rcases Z3.1 s with p|p
     ·omega
     ·have:=(q1w.1 d).1 _ p;omega⟩
   rw[H]at this;cases this
 intro fuel
 induction fuel with
 |zero=>
  intro l b x h a w C c d y F M H O hi R;have C:l=[]:=by simpa using C
  subst C;refine⟨?_,hQ a w x h H O hi R M⟩;cases S:Region.ready .any ops b with
  |nil=>rfl
  |cons i r=>
   exfalso;have:=mem_ready.1 (S▸q0b:i∈Region.ready .any ops b);exact absurd ((y i).2 ⟨this.1,(q c i this.1)▸this.2.1⟩) (by simp)
 |succ fuel ih=>
  intro l b x h a w C c d y F M H O hi R;refine⟨λh0=>?_,λi T=>?_⟩
  ·have:=empty l b c d y h0;subst this;cases C
  ·obtain⟨m,U,o,ho,u⟩:=mem_ready.1 T;have V:i∈l:=(y i).2 ⟨m,(q c i m)▸U⟩;obtain⟨r,K,rfl⟩:=List.append_of_mem V;have D:=List.pairwise_append.1 d;have E:∀j∈r,j<i:=λj g=>D.2.2 j g i (by simp)
   have G:∀j∈K,i<j:=λj g=>(q1w.1 D.2.1).1 j g
   have W:∀j∈r,n6 P ops j i=true:=λj g=>((z i o ho).2 j (E j g)).resolve_right λB=>by
    have p:=iC F 4 i (λo' f e A X=>by
     rw[ho]at f;cases f;exact u e A X) B
    have J:=((y j).1 (by simp[g])).2;rw[p]at J;cases J
   have hg:=R2 ho r K W hi M;refine wb ho (hd o (by simpa using Array.mem_of_getElem? ho)) hg H O hi R λa' w' Y h' Z hp' hi' hs' v=>?_
   refine ih (r++K) _ Y h' a' w' (by simp at C⊢;omega) (by simpa using c) ?_ (λj=>?_) ?_ v Z hp' hi' hs'
   ·exact d.sublist (List.Sublist.append (List.Sublist.refl r) (q4a i K))
   ·rw[lg (by omega)];have hm':=y j;by_cases g:j=i
    ·subst g;simp only[if_pos,Bool.true_eq_false,and_false,iff_false];intro s;rcases q1d.1 s with p|p
     ·have:=E j p;omega
     ·have:=G j p;omega
    ·rw[if_neg g,<-hm'];simp[g]
   ·intro k o' f v e A B;rw[lg (by omega)]at v⊢;by_cases I:k=i
    ·subst I;rw[ho]at f;cases f;split
     ·rfl
     ·exact u e A B
    ·rw[if_neg I]at v;split
     ·rfl
     ·exact F k o' f v e A B
def kz(ops:Array Oper):Bool:=(List.range ops.size).all λi=>match ops[i]? with
 |some o=>o.after.all λe=>!Region.binds .any e||decide (e.on<i)
 |none=>true
def CB(P:Program)(ops:Array Oper)(b:Env)(h:Hp)(N:Env->Hp->Prop):Prop:=kz ops=true/\∃I:Array Bool->Env->Hp->Prop,I (Array.replicate ops.size false) b h/\
 (∀a i o b h,a.size=ops.size->Down ops a->ops[i]?=some o->a.getD i false=false->(∀e∈o.after,Region.binds .any e=true->a.getD e.on false=true)->I a b h->(∃w,Is w h)->
  bf P ops o b h (I (a.setIfInBounds i true)))/\
 (∀a b h,a.size=ops.size->(∀i,i<ops.size->a.getD i false=true)->I a b h->N b h)
theorem Po {n:Nat} {ds:List Nat} {ρ0:Env} {w0:World} {N:Env->Hp->Prop} {Q:Exit->Act->World->Prop} {I:Array Bool->Env->Hp->Prop} (O:kz ops=true) (hd:∀o∈ops.toList,∀t,o.dst=some t->t<n/\ds.contains t=true)
 (B:∀b i o d h,b.size=ops.size->Down ops b->ops[i]?=some o->b.getD i false=false->(∀e∈o.after,Region.binds .any e=true->b.getD e.on false=true)->I b d h->(∃w,Is w h)->
  bf P ops o d h (I (b.setIfInBounds i true)))
 (H:∀b d h,b.size=ops.size->(∀i,i<ops.size->b.getD i false=true)->I b d h->N d h)
 (hQ:∀a w d h,Rel n a d->gI ds ρ0 d->Is w h->bO w0 w->N d h->Q .normal a w):
 ∀(fuel:Nat) (l:List Nat) (b:Array Bool) (d:Env) (h:Hp) (a:Act) (w:World),l.length=fuel->b.size=ops.size->l.Pairwise (·<·)->(∀i,i∈l<->i<ops.size/\b.getD i false=false)->Down ops b->
  I b d h->Rel n a d->gI ds ρ0 d->Is w h->bO w0 w->wpAny P .any ops Q fuel b a w:=by
 have J:∀i o,ops[i]?=some o->∀e∈o.after,Region.binds .any e=true->e.on<i:=λi o ho e G x=>by
  have f:i<ops.size:=(q0f.1 ho).1;have u:=q0a.1 O i (by simpa using f);simp only[ho]at u;have:=Array.all_eq_true'.1 u e G;simpa[x]using this
 have m:∀{b:Array Bool},b.size=ops.size->∀i,i<ops.size->b.getD i true=b.getD i false:=λc i hi=>by
  simp[Array.getD,c,hi]
 have empty:∀(l:List Nat) (b:Array Bool),b.size=ops.size->l.Pairwise (·<·)->(∀i,i∈l<->i<ops.size/\b.getD i false=false)->Region.ready .any ops b=[]->l=[]:=λl b c g v K=>by
  cases l with
  |nil=>rfl
  |cons i l=>
   exfalso;have hi:=(v i).1 (by simp)
   have:i∈Region.ready .any ops b:=mem_ready.2 ⟨hi.1,(m c i hi.1).trans hi.2,ops[i]'hi.1,q1a hi.1,λe G x=>by
    have f:=J i _ (q1a hi.1) e G x;cases y:b.getD e.on false with
    |true=>rfl
    |false=>
     have p:=(v e.on).2 ⟨by have:=hi.1;omega,y⟩;rcases Z3.1 p with u|u
     ·omega
     ·have:=(q1w.1 g).1 _ u;omega⟩
   rw[K]at this;cases this
 intro fuel
 induction fuel with
 |zero=>
  intro l b d h a w y c g v C R K S hi T;have y:l=[]:=by simpa using y
  subst y;refine⟨?_,hQ a w d h K S hi T (H b d h c (λi f=>?_) R)⟩
  ·cases U:Region.ready .any ops b with
   |nil=>rfl
   |cons i r=>
    exfalso;have:=mem_ready.1 (U▸q0b:i∈Region.ready .any ops b);exact absurd ((v i).2 ⟨this.1,(m c i this.1)▸this.2.1⟩) (by simp)
  ·cases x:b.getD i false with
   |true=>rfl
   |false=>exact absurd ((v i).2 ⟨f,x⟩) (by simp)
 |succ fuel ih=>
  intro l b d h a w y c g v C R K S hi T;refine⟨λh0=>?_,λi V=>?_⟩
  ·have:=empty l b c g v h0;subst this;cases y
  ·obtain⟨f,W,o,ho,q⟩:=mem_ready.1 V;have z:b.getD i false=false:=(m c i f)▸W;have X:i∈l:=(v i).2 ⟨f,z⟩;obtain⟨r,Y,rfl⟩:=List.append_of_mem X;have A:=List.pairwise_append.1 g;have L:∀j∈r,j<i:=λj D=>A.2.2 j D i (by simp)
   have E:∀j∈Y,i<j:=λj D=>(q1w.1 A.2.1).1 j D
   have hg:=B b i o d h c C ho z q R ⟨w,hi⟩;refine wb ho (hd o (by simpa using Array.mem_of_getElem? ho)) hg K S hi T λa' w' Z h' hr' hp' hi' hs' s=>?_
   refine ih (r++Y) _ Z h' a' w' (by simp at y⊢;omega) (by simpa using c) ?_ (λj=>?_) ?_ s hr' hp' hi' hs'
   ·exact g.sublist (List.Sublist.append (List.Sublist.refl r) (q4a i Y))
   ·rw[lg (by omega)];have hm':=v j;by_cases D:j=i
    ·subst D;simp only[if_pos,Bool.true_eq_false,and_false,iff_false];intro p;rcases q1d.1 p with u|u
     ·have:=L j u;omega
     ·have:=E j u;omega
    ·rw[if_neg D,<-hm'];simp[D]
   ·intro k o' F s e G x;rw[lg (by omega)]at s⊢;by_cases M:k=i
    ·subst M;rw[ho]at F;cases F;split
     ·rfl
     ·exact q e G x
    ·rw[if_neg M]at s;split
     ·rfl
     ·exact C k o' F s e G x
theorem yI {n id:Nat} {ds:List Nat} {ρ0 b:Env} {w0 w:World} {h:Hp} {a:Act} {N:Env->Hp->Prop} {Q:Exit->Act->World->Prop} (g:P.follows .mixedOrders=true) (hd:∀o∈ops.toList,∀t,o.dst=some t->t<n/\ds.contains t=true)
 (j:∀a w b h,Rel n a b->gI ds ρ0 b->Is w h->bO w0 w->N b h->Q .normal a w) (l:CB P ops b h N) (m:Rel n a b) (p:gI ds ρ0 b) (hi:Is w h) (q:bO w0 w):(Code.region id ops true).wp P Q a w:=by
 obtain⟨f,I,r,c,d⟩:=l;refine wp_region_any g (Po f hd c d j ops.size (List.range' 0 ops.size) _ b h a _ (by simp) (by simp) List.pairwise_lt_range' (λi=>?_) (λi o ho s=>?_) r m p hi q)
 ·simp only[List.mem_range'_1,Y5,true_and,q0w];refine⟨λe=>⟨e,?_⟩,λk=>k.1⟩;simp[Array.getD,e]
 ·simp[Array.getD]at s
theorem we {n id:Nat} {ds:List Nat} {ρ0 b:Env} {w0 w:World} {h:Hp} {a:Act} {N:Env->Hp->Prop} {Q:Exit->Act->World->Prop} (e:P.follows .mixedOrders=true) (d:CA P ops=true) (hd:∀o∈ops.toList,∀t,o.dst=some t->t<n/\ds.contains t=true)
 (f:∀a w b h,Rel n a b->gI ds ρ0 b->Is w h->bO w0 w->N b h->Q .normal a w) (g:lb P ops ops.toList b h N) (l:Rel n a b) (m:gI ds ρ0 b) (hi:Is w h) (p:bO w0 w):(Code.region id ops true).wp P Q a w:=by
 refine wp_region_any e (LF d hd f ops.size (List.range' 0 ops.size) _ b h a _ (by simp) (by simp) List.pairwise_lt_range' (λi=>?_) (λi o ho q=>?_) ?_ l m hi p)
 ·simp only[List.mem_range'_1,Y5,true_and,q0w];refine⟨λc=>⟨c,?_⟩,λk=>k.1⟩;simp[Array.getD,c]
 ·simp[Array.getD]at q
 ·have:=Cz (P:=P) (ops:=ops) N ops.toList 0 (λj=>by simp) b h g;simpa using this
end
section
variable {P:Program} {ops:Array Oper}
abbrev FW(r:Option Nat):Fence:={Fence.wide with round:=r}
def tE(P:Program)(y:Nat)(args:Array Value)(h:Hp)(K:KH):Prop:=∀w,Is w h->YieldAt Fence.wide 0 P y args w λe a=>∃v b,e= .returned v/\Is a b/\bO w a/\K v b
def valOf(o:Oper):Option (Operand×Array Operand):=match o.guard,o.op with
 |none,.call c=>(match c.callee with
  | .value f=>some (f,c.args)
  |_=>none)
 |_,_=>none
def CC(P:Program)(ops:Array Oper):List Oper->Env->Hp->(Env->Hp->Prop)->Prop
 | [],a,h,N=>N a h
 |o::l,a,h,N=>(∃f xs y,valOf o=some (f,xs)/\a.ev f= .func (.yield y) #[] #[]/\tE P y (xs.map a.ev) h λv b=>CC P ops l (a.put o.dst v) b N)∨bf P ops o a h λc b=>CC P ops l c b N
def oD(d:List Deferred)(n:Nat)(a:Act)(b:Env):Prop:=a.defers=d/\a.tmps.size=n/\∀t,a.tmps.getD t undef=b t
theorem oD.eval{d:List Deferred}{n:Nat}{a:Act}{b:Env}(h:oD d n a b):a.eval=b.ev:=by
 funext x;cases x with
 |tmp t=>exact h.2.2 t
 |_=>rfl
theorem oD.rel{d:List Deferred}{n:Nat}{a:Act}{b:Env}(h:oD d n a b):Rel n {a with defers:=[]} b:=⟨rfl,h.2.1,h.2.2⟩
theorem oD.put{D:List Deferred}{n:Nat}{a:Act}{b:Env}(h:oD D n a b){d:Option Nat}(hd:∀t,d=some t->t<n)(v:Value):oD D n (a.put d v) (b.put d v):=by
 have:=h.rel.put hd v;cases d with
 |none=>exact⟨h.1,this.2.1,this.2.2⟩
 |some d=>exact⟨h.1,this.2.1,this.2.2⟩
theorem qw{op:Op}{a:Env}{h:Hp}{K:KH}(b:bK P op a h K):∀c,op≠ .defer c:=λc e=>by
 subst e;exact b.elim
theorem Ran.wpIn {r:Option Nat} {o:Oper} {a:Act} {w w0:World} {K:KH} {N:Act->World->Prop} {Q:Exit->Act->World->Prop} (l:∀c,o.op≠ .defer c) (s:Ran P w K ((execOp a.eval o).run P w)) (m:bO w0 w)
 (hn:∀v d w',Is w' d->bO w0 w'->K v d->N (a.put o.dst v) w'):o.wpIn (FW r) 0 P a w N Q:=by
 refine⟨λ_ _=>trivial,?_⟩;rw[show Oper.semAt (FW r).round a.eval o=execOp a.eval o from Oper.semAt_eq _ _ _ l];generalize (execOp a.eval o).run P w=x at s;cases s with
 |value v w' d h b i=>exact hn v d w' h (m.trans b) i
 |skip w' d h b i=>exact hn undef d w' h (m.trans b) i
 |enter f args w' d h b i=>
  refine⟨λq=>Bool.noConfusion q,callsIn_wide.2 ((i w' h).mono λe n ⟨v,g,t,j,k,p⟩=>?_)⟩;subst t;exact hn v g n j ((m.trans b).trans k) p
theorem tE.wpIn {r:Option Nat} {o:Oper} {a:Act} {w w0:World} {K:KH} {N:Act->World->Prop} {Q:Exit->Act->World->Prop} {f:Operand} {xs:Array Operand} {y:Nat} {h:Hp} (hv:valOf o=some (f,xs)) (k:a.eval f= .func (.yield y) #[] #[]) (l:tE P y (xs.map a.eval) h K) (hi:Is w h) (m:bO w0 w)
 (hn:∀v b w',Is w' b->bO w0 w'->K v b->N (a.put o.dst v) w'):o.guard=none/\o.wpIn (FW r) 0 P a w N Q:=by
 obtain⟨dst,op,ty,pos,after,guard⟩:=o;cases guard with
 |some g=>simp[valOf]at hv
 |none=>
  refine⟨rfl,λ_ _=>trivial,?_⟩;cases op with
  |call c=>
   obtain⟨callee,args,d⟩:=c;cases callee with
   |value n=>
    simp only[valOf,q1z,q3a]at hv;obtain⟨rfl,rfl⟩:=hv;obtain⟨fn,tmps,assign,body,p,s⟩:=l w hi
    have:(Oper.semAt (FW r).round a.eval ⟨dst,.call {callee:= .value n,args:=args,argTypes:=d},ty,pos,after,none⟩).run P w= .ok (.round y fn tmps assign body) w:=by
     rw[Oper.semAt_eq _ _ _ (by simp)];simp only[execOp,resolve,k,Deferred.ofValue,invoke,Sem.run_bind,Sem.run_pure,Result.andThen_ok];simpa using p
    rw[this];refine⟨λq=>Bool.noConfusion q,s.mono λe w' ⟨v,b,t,i,j,u⟩=>?_⟩;subst t;exact hn v b w' i (m.trans j) u
   |_=>simp[valOf]at hv
  |_=>simp[valOf]at hv
theorem oE{r:Option Nat}{d:List Deferred}{n:Nat}{ds:List Nat}{ρ0:Env}{w0:World}{N:Env->Hp->Prop}{Q:Exit->Act->World->Prop}(G:∀a w s h,oD d n a s->gI ds ρ0 s->Is w h->bO w0 w->N s h->Q .normal a w):
 ∀(l:List Oper),(∀o∈l,∀t,o.dst=some t->t<n/\ds.contains t=true)->∀(s:Env) (h:Hp) (a:Act) (w:World),CC P ops l s h N->oD d n a s->gI ds ρ0 s->Is w h->bO w0 w->wpListIn (FW r) 0 P ops Q l a w
 | [],_,s,h,a,w,b,c,A,hi,z=>G a w s h c A hi z b
 |o::l,hd,s,h,a,w,b,c,A,hi,z=>by
  have B:=hd o (by simp);have g:∀t,o.dst=some t->t<n:=λt e=>(B t e).1
  have i:∀t,o.dst=some t->ds.contains t=true:=λt e=>(B t e).2
  have C:=oE (r:=r) (w0:=w0) G l (λM ho=>hd M (by simp[ho]));rcases b with⟨f,xs,y,H,I,u⟩|b
  ·refine wpListIn_plain (tE.wpIn (r:=r) (w0:=w0) (a:=a) (N:=λ_ _=>True) (Q:=Q) H (c.eval▸I) (c.eval▸u) hi z (λ_ _ _ _ _ _=>trivial)).1 λK x=>?_
   exact(tE.wpIn (w0:=w0) H (c.eval▸I) (c.eval▸u) hi z λv J L k m p=>x _ _ (C _ _ _ _ p (c.put g v) (A.put i v) k m)).2
  ·unfold bf at b;split at b
   ·rename_i D;exact wpListIn_plain D λK x=>Ran.wpIn (w0:=w0) (qw b) (c.eval▸jH b hi) z λv J L k m p=>x _ _ (C _ _ _ _ p (c.put g v) (A.put i v) k m)
   ·rename_i j want D;split at b
    ·exact b.elim
    ·rename_i t O;have u:=qM c.rel ops O;dsimp only at u;split at b
     ·rename_i q F;rw[F]at u;split at b
      ·rename_i e;subst e;have E:Region.wanted o (yielded ops a.tmps)=true:=by simp[Region.wanted,D,u]
       refine wpListIn_step λK x=>?_
       rw[if_pos E];exact Ran.wpIn (w0:=w0) (qw b) (c.eval▸jH b hi) z λv J L k m p=>x _ _ (C _ _ _ _ p (c.put g v) (A.put i v) k m)
      ·rename_i e;have R:q=!want:=by cases q<;>cases want<;>simp_all
       subst R;have E:Region.wanted o (yielded ops a.tmps)=false:=by simp[Region.wanted,D,u]
       refine wpListIn_step λK x=>?_
       rw[if_neg (by simp[E])];exact⟨λ_ _=>trivial,x _ _ (C _ _ _ _ b (c.put g undef) (A.put i undef) hi z)⟩
     ·rename_i S F;rw[F]at u;have E:Region.wanted o (yielded ops a.tmps)=false:=by simp[Region.wanted,D,u]
      refine wpListIn_step λK x=>?_
      rw[if_neg (by simp[E])];exact⟨λ_ _=>trivial,x _ _ (C _ _ _ _ b (c.put g undef) (A.put i undef) hi z)⟩
     ·exact b.elim
end
def LG(P:Program)(src dst:TypeId)(x:Value)(h:Hp)(K:Value->Prop):Prop:=
 match x with
 | .int _ n=>(match P.underlying src,P.underlying dst with
  |some (.int _),some (.int k)=>K (.int k (k.wrap n))
  |_,_=>False)
 | .slice base len _=>(match P.underlying src,P.underlying dst with
  |some (.slice e),some .string=>P.underlying e=some (.int .u8)/\(match base with
   |none=>K (.string ByteArray.empty)
   |some ⟨b,o,none⟩=>(match h.f b with
    |some (.cells c _ _)=>(match(cO c o len).bind bytesOf with
     |some bs=>K (.string ⟨bs.toArray⟩)
     |none=>False)
    |_=>False)
   |_=>False)
  |_,_=>False)
 |_=>False
theorem CD{P:Program}{src dst:TypeId}{x:Value}{h:Hp}{K:Value->Prop}(a:LG P src dst x h K):PG P (convert src dst x) h K:=by
 unfold LG at a;split at a
 ·rename_i k n;split at a
  ·rename_i u v f g;exact .here (λw _=>by simp[convert,run_underlying f,run_underlying g,Conv.intToInt]) a
  ·exact a.elim
 ·rename_i base len cap;split at a
  ·rename_i e f g;obtain⟨p,a⟩:=a;split at a
   ·refine .here (λw _=>?_) a;exact run_convert_bytes_nil w src e f p _ _ dst g
   ·rename_i b o;split at a
    ·rename_i c t fz q;split at a
     ·rename_i bs j;refine .here (λw r=>?_) a;cases m:cO c o len with
      |none=>rw[m]at j;cases j
      |some l=>
       rw[m]at j;obtain⟨s,rfl,rfl⟩:=nf l bs j;have d:=run_loadCells (P:=P) (w:=w) (λi=>r.cell (i:=i) q) m;rw[run_convert_bytes_string w src dst e _ _ _ f p g,run_bytesToString w _ _ _ s d,foldl_push_bytes];simp[ByteArray.empty,ByteArray.emptyWithCapacity];rfl
     ·exact a.elim
    ·exact a.elim
   ·exact a.elim
  ·exact a.elim
 ·exact a.elim
def AF(P:Program)(o:Op)(a:Env)(h:Hp)(K:Value->Prop):Prop:=
 match o with
 | .call c=>(match c.callee with
  | .value f=>R0 P (a.ev f) (c.args.map a.ev) h K
  | .builtin b=>dJ P b c.argTypes.toList (c.args.toList.map a.ev) h K
  |_=>False)
 | .convert src dst x=>LG P src dst (a.ev x) h K
 |o=>dG P o a h K
def Cls(h:Hp)(w0 w:World):Prop:=∃n,h.n<=n/\Is w (h.to n)/\bO w0 w
theorem rQ{P:Program}{o:Oper}{a:Act}{p:Env}{h:Hp}{w0:World}{K:Value->Prop}(y:a.eval=p.ev)(i:AF P o.op p h K):∃v,K v/\∀w,Cls h w0 w->o.quietAt P a (Cls h w0) w v:=by
 have d:∀{v:Value},(∀w,Fits w h->(execOp p.ev o).run P w= .ok (.value v) w)->∀w,Cls h w0 w->o.quietAt P a (Cls h w0) w v:=λj w ⟨n,_,s,_⟩=>by
  unfold Oper.quietAt;rw[y,j w s.2];exact⟨rfl,rfl⟩
 unfold AF at i;split at i
 ·rename_i c q;split at i
  ·rename_i f z;unfold R0 at i;split at i
   ·rename_i g first captured A
    obtain⟨v,⟨l,B⟩,m⟩:=i;refine⟨v,m,λw ⟨n,D,s,E⟩=>?_⟩;obtain⟨dst,op,ty,pos,after,guard⟩:=o;obtain⟨callee,args,t⟩:=c;dsimp only at q z A B;subst q z
    have r:(execOp p.ev ⟨dst,.call {callee:= .value f,args:=args,argTypes:=t},ty,pos,after,guard⟩).run P w= .ok (.enter g (first++args.map p.ev++captured)) w:=by
     simp only[execOp,resolve,A,Deferred.ofValue,invoke,Sem.run_bind,Sem.run_pure,Result.andThen_ok,np l]
    unfold Oper.quietAt;rw[y,r];refine⟨rfl,(B n D w s).mono λe N ⟨u,O,F,G,H,I,k,Q,J⟩=>?_⟩;subst F I J;exact⟨rfl,k,by omega,G,E.trans H⟩
   ·exact i.elim
  ·rename_i b L
   have:dG P o.op p h K:=by
    rw[q];unfold dG;simp only[L];exact i
   obtain⟨v,m,j⟩:=oA this;exact⟨v,m,d j⟩
  ·exact i.elim
 ·rename_i src dst x q;obtain⟨v,m,j⟩:=CD i;refine⟨v,m,d λw M=>?_⟩;obtain⟨C,op,ty,pos,after,guard⟩:=o;dsimp only at q;subst q;simp only[execOp,Sem.run_bind,j w M,Result.andThen_ok];rfl
 ·obtain⟨v,m,j⟩:=oA i;exact⟨v,m,d j⟩
def wg(P:Program)(ops:Array Oper)(h:Hp):List Oper->Env->(Env->Prop)->Prop
 | [],a,N=>N a
 |o::l,a,N=>(match o.guard with
  |none=>AF P o.op a h λv=>wg P ops h l (a.put o.dst v) N
  |some (j,want)=>(match jI ops j with
   |none=>False
   |some t=>(match a t with
    | .bool q=>Br (q==want) (AF P o.op (a.upd t (.bool want)) h λv=>wg P ops h l ((a.upd t (.bool want)).put o.dst v) N)
     (wg P ops h l ((a.upd t (.bool (!want))).put o.dst undef) N)
    | .tuple _=>wg P ops h l (a.put o.dst undef) N
    |_=>False)))
theorem uG{P:Program}{ops:Array Oper}{n:Nat}{ds:List Nat}{ρ0:Env}{h:Hp}{w0:World}{N:Env->Prop}{Q:Act->Prop}(y:∀a f,Rel n a f->gI ds ρ0 f->N f->Q a):
 ∀(l:List Oper),(∀o∈l,∀t,o.dst=some t->t<n/\ds.contains t=true)->∀(f:Env) (a:Act),wg P ops h l f N->Rel n a f->gI ds ρ0 f->wpQuiet P ops (Cls h w0) Q l a
 | [],_,f,a,c,g,p=>y a f g p c
 |o::l,hd,f,a,c,g,p=>by
  have r:=hd o (by simp);have i:∀t,o.dst=some t->t<n:=λt e=>(r t e).1
  have k:∀t,o.dst=some t->ds.contains t=true:=λt e=>(r t e).2
  have w:=uG (P:=P) (ops:=ops) (h:=h) (w0:=w0) y l (λz ho=>hd z (by simp[ho]));unfold wg at c;unfold wpQuiet;split at c
  ·rename_i s;rw[if_pos (by simp[Region.wanted,s])];obtain⟨v,x,m⟩:=rQ (w0:=w0) g.eval c;exact⟨v,m,w _ _ x (g.put i v) (p.put k v)⟩
  ·rename_i j want s;split at c
   ·exact c.elim
   ·rename_i t A;have u:=qM g ops A;split at c
    ·rename_i q m;rw[m]at u;rcases G0 c with⟨b,d⟩|⟨b,d⟩
     ·have b:q=want:=by simpa using b
      subst b;rw[nq m]at d;rw[if_pos (by simp[Region.wanted,s,u])];obtain⟨v,x,m⟩:=rQ (w0:=w0) g.eval d;exact⟨v,m,w _ _ x (g.put i v) (p.put k v)⟩
     ·have b:q=!want:=by cases q<;>cases want<;>simp_all
      subst b;rw[nq m]at d;rw[if_neg (by simp[Region.wanted,s,u])];exact w _ _ d (g.put i undef) (p.put k undef)
    ·rename_i B m;rw[m]at u;rw[if_neg (by simp[Region.wanted,s,u])];exact w _ _ c (g.put i undef) (p.put k undef)
    ·exact c.elim
def LH(l:List Oper):List Nat:=l.filterMap (·.dst)
def aL:Code->List Nat
 | .region _ ops _=>LH ops.toList
 | .seq a b=>aL a++aL b
 | .cond _ a b=>aL a++aL b
 | .block _ c=>aL c
 | .loop c=>aL c
 | .scope c=>aL c
 |_=> []
abbrev EH:=Env->Hp->Prop
def Wf(h:Hp):Prop:=∀b o,h.f b=some o->b<h.n
theorem Is.wf{w:World}{h:Hp}(hi:Is w h):Wf h:=λ_ _ e=>hi.lt e
def VI(B:EH->EH)(f:List Nat)(d:Env)(h:Hp):Prop:=
 ∃(I:EH) (e:Env->Hp->Nat),I d h/\∀a c,I a c->Wf c->gI f d a->B (λb i=>∃g,Sub g i/\I b g/\e b g<e a c) a c
def avc(P:Program):Code->EH->EH->(Nat->EH)->EH
 | .skip,N,_,_,d,h=>N d h
 | .region _ ops draw,N,_,_,d,h=>if draw=true then(Region.lexB .any ops=true/\wg P ops h ops.toList d λe=>∀n,h.n<=n->N e (h.to n))∨(CA P ops=true/\lb P ops ops.toList d h N)∨CB P ops d h N else CC P ops ops.toList d h N
 | .seq a b,N,R,X,d,h=>avc P a (λe f=>avc P b N R X e f) R X d h
 | .cond c a b,N,R,X,d,h=>(match d.ev c with
  | .bool q=>Br q (avc P a N R X d h) (avc P b N R X d h)
  |_=>False)
 | .block id c,N,R,X,d,h=>avc P c N R (λi e f=>if i=id then N e f else X i e f) d h
 | .loop c,_,R,X,d,h=>VI (λN' e f=>avc P c N' R X e f) (aL c) d h
 | .exit i,_,_,X,d,h=>X i d h
 | .scope c,N,R,X,d,h=>avc P c N R X d h
 | .label _,N,_,_,d,h=>N d h
 | .ret,_,R,_,d,h=>R d h
 |_,_,_,_,_,_=>False
def Ye(n:Nat)(ds:List Nat)(ρ0:Env)(w0:World)(N R:EH)(X:Nat->EH):Exit->Act->World->Prop
 | .normal,a,w=>∃b h,Rel n a b/\Is w h/\bO w0 w/\gI ds ρ0 b/\N b h
 | .ret,a,w=>∃b h,Rel n a b/\Is w h/\bO w0 w/\gI ds ρ0 b/\R b h
 | .exit i,a,w=>∃b h,Rel n a b/\Is w h/\bO w0 w/\gI ds ρ0 b/\X i b h
 |_,_,_=>False
theorem gI.mono{ds es:List Nat}{ρ0 a:Env}(c:gI ds ρ0 a)(d:∀t,ds.contains t=true->es.contains t=true):gI es ρ0 a:=λt b=>c t (by
 cases h:ds.contains t with
 |false=>rfl
 |true=>rw[d t h]at b;cases b)
theorem gI.trans{ds:List Nat}{a b c:Env}(h:gI ds a b)(k:gI ds b c):gI ds a c:=λt d=>(k t d).trans (h t d)
theorem yJ {P:Program} {c:Code} {Q:Exit->Act->World->Prop} {γ:Type} (I:γ->Act->World->Prop) (u:γ->Nat)
 (round:∀g a w,I g a w->c.wp P (Exit.then (λp w'=>∃q,I q p w'/\u q<u g) Q) a w) {g:γ} {a:Act} {w:World} (y:I g a w):(Code.loop c).wp P Q a w:=by
 intro b k cs
 have key:∀n g a w,u g=n->I g a w->∃e p w',Q e p w'/\Arrives P (lone (b.at a (.code c:: .inLoop c::k)) cs w) b k cs e p w':=by
  intro n
  induction n using Nat.strongRecOn with
  |_ n z=>
   intro g a w A B;obtain⟨e,f,h,j,d⟩:=round g a w B b (.inLoop c::k) cs;cases e with
   |normal=>
    obtain⟨q,m,v⟩:=j;obtain⟨r,s,t,o,i⟩:=z (u q) (A▸v) q f h rfl m
    exact⟨r,s,t,o,.of_steps (Steps.trans d (.one step_inLoop)) i⟩
   |exit id=>exact⟨_,f,h,j,.pass (x:= .inLoop c) rfl (λ_ _=> .inl (by simp)) d⟩
   |goto l=>exact⟨_,f,h,j,.pass (x:= .inLoop c) rfl (λ_ _=> .inl (by simp)) d⟩
   |ret=>exact⟨_,f,h,j,.pass (x:= .inLoop c) rfl (λ_ _=> .inl (by simp)) d⟩
   |panic C=>exact⟨_,f,h,j,.pass (x:= .inLoop c) rfl (λ_ _=> .inl (by simp)) d⟩
   |outgrown=>exact⟨_,f,h,j,.pass (x:= .inLoop c) rfl (λ_ _=> .inl (by simp)) d⟩
 obtain⟨e,p,w',j,d⟩:=key _ g a w rfl y
 exact⟨e,p,w',j,.of_steps (.one step_loop) d⟩
theorem uH{l:List Oper}{n:Nat}{ds:List Nat}(hd:∀t∈LH l,t<n/\ds.contains t=true):∀o∈l,∀t,o.dst=some t->t<n/\ds.contains t=true:=
 λo ho t e=>hd t (q2p.2 ⟨o,ho,e⟩)
theorem Jt{P:Program}(hm:P.follows .mixedOrders=true){n:Nat}{w0:World}:∀(c:Code) (ds:List Nat),(∀t∈aL c,t<n/\ds.contains t=true)->∀(N R:EH) (X:Nat->EH) (ρ0 s:Env) (h:Hp) (a:Act) (w:World),
 avc P c N R X s h->Rel n a s->Is w h->bO w0 w->gI ds ρ0 s->c.wp P (Ye n ds ρ0 w0 N R X) a w:=by
 intro c
 induction c with
 |skip=>intro ds _ N R X ρ0 s h a w b u z A v;exact wp_skip ⟨s,h,u,z,A,v,b⟩
 |region id ops draw=>
  intro ds hd N R X ρ0 s h a w b u z A v;have Q:=uH (l:=ops.toList) hd;unfold avc at b;split at b
  ·rename_i G;subst G;rcases b with b|b|b
   case inr.inr=>exact yI (n:=n) (ds:=ds) (ρ0:=ρ0) (w0:=w0) hm Q (λH E f B o j m p S=>⟨f,B,o,m,p,j,S⟩) b u v z A
   case inr.inl=>exact we (n:=n) (ds:=ds) (ρ0:=ρ0) (w0:=w0) hm b.1 Q (λH E f B o j m p S=>⟨f,B,o,m,p,j,S⟩) b.2 u v z A
   refine wp_region_quiet (C:=Cls h w0) hm b.1 ⟨h.n,Z6 _,z,A⟩ ?_;exact uG (λH f o j S E ⟨k,hkn,m,p⟩=>⟨f,h.to k,o,m,p,j,S k hkn⟩) ops.toList Q s a b.2 u v
  ·rename_i G;have G:draw=false:=by simpa using G
   subst G;refine(wpIn_wide (n:=0)).1 (wpIn_region_list ?_);exact oE (r:=none) (d:=[]) (n:=n) (ds:=ds) (ρ0:=ρ0) (w0:=w0) (λH E f B o j m p S=>⟨f,B,o,m,p,j,S⟩) ops.toList Q s h a w b u v z A
 |seq x y U V=>
  intro ds hd N R X ρ0 s h a w b u z A v;refine wp_seq (Code.wp_mono (λe H E D=>?_) (U ds (λt F=>hd t (by simp[aL,F])) (λf B=>avc P y N R X f B) R X ρ0 s h a w b u z A v));cases e with
  |normal=>
   obtain⟨f,B,o,m,p,j,S⟩:=D;exact V ds (λt F=>hd t (by simp[aL,F])) N R X ρ0 f B H E S o m p j
  |_=>exact D
 |cond t x y U V=>
  intro ds hd N R X ρ0 s h a w b u z A v;unfold avc at b;split at b
  ·rename_i q D;refine wp_cond_split (t:=q) (by rw[u.eval,D]) (λe=>?_) (λe=>?_)
   ·exact U ds (λt F=>hd t (by simp[aL,F])) N R X ρ0 s h a w (b.1 e) u z A v
   ·exact V ds (λt F=>hd t (by simp[aL,F])) N R X ρ0 s h a w (b.2 e) u z A v
  ·exact b.elim
 |block id x Z=>
  intro ds hd N R X ρ0 s h a w b u z A v;refine wp_block (Code.wp_mono (λe H E D=>?_) (Z ds hd N R (λi f B=>if i=id then N f B else X i f B) ρ0 s h a w b u z A v));cases e with
  |exit i=>
   obtain⟨f,B,o,m,p,j,hX⟩:=D;simp only[Exit.inBlock];split
   ·rename_i e;rw[if_pos e]at hX;exact⟨f,B,o,m,p,j,hX⟩
   ·rename_i e;rw[if_neg e]at hX;exact⟨f,B,o,m,p,j,hX⟩
  |_=>exact D
 |loop x Z=>
  intro ds hd N R X ρ0 s h a w b u z A v;obtain⟨I,μ,h0,W⟩:=b;have T:∀t,(aL x).contains t=true->ds.contains t=true:=λt F=>(hd t (show t∈aL x from by simpa using F)).2
  refine yJ (γ:=Env×Hp) (λg H E=>Rel n H g.1/\Is E g.2/\bO w0 E/\gI (aL x) s g.1/\I g.1 g.2) (λg=>μ g.1 g.2) (λg H E ⟨o,m,p,j,hI⟩=>?_) (g:=(s,h)) ⟨u,z,A,λ_ _=>rfl,h0⟩;have hb:=W g.1 g.2 hI m.wf j;refine Code.wp_mono (λe a2 w2 D=>?_) (Z (aL x) (λt F=>⟨(hd t F).1,by simpa using (show t∈aL x from F)⟩) _ R X s g.1 g.2 H E hb o m p j);cases e with
  |normal=>
   obtain⟨J,h2,K,L,M,O,g2,Y,hI2,hlt⟩:=D;exact⟨(J,g2),⟨K,L.sub Y,M,O,hI2⟩,hlt⟩
  |ret=>
   obtain⟨J,h2,K,L,M,O,hR⟩:=D;exact⟨J,h2,K,L,M,v.trans (O.mono T),hR⟩
  |exit i=>
   obtain⟨J,h2,K,L,M,O,hR⟩:=D;exact⟨J,h2,K,L,M,v.trans (O.mono T),hR⟩
  |_=>exact D
 |exit i=>intro ds _ N R X ρ0 s h a w b u z A v;exact wp_exit ⟨s,h,u,z,A,v,b⟩
 |scope x Z=>
  intro ds hd N R X ρ0 s h a w b u z A v;refine wp_scope_straight (Code.wp_mono (λe H E D=>?_) (Z ds hd N R X ρ0 s h a w b u z A v));cases e<;>exact D
 |label l=>intro ds _ N R X ρ0 s h a w b u z A v;exact wp_label ⟨s,h,u,z,A,v,b⟩
 |ret=>intro ds _ N R X ρ0 s h a w b u z A v;exact wp_ret ⟨s,h,u,z,A,v,b⟩
 |_=>intro ds _ N R X ρ0 s h a w b;exact b.elim
def CE:List Value->Value
 | [v]=>v
 |l=> .tuple l.toArray
def vc(P:Program):List ResultVar->List Value->Env->Hp->KH->Prop
 | [],acc,_,g,K=>Fin K (CE acc.reverse) g
 | .tmp t::rs,acc,b,g,K=>vc P rs (b t::acc) b g K
 | .cell a t::rs,acc,b,g,K=>kZ P t (b a) g λv=>vc P rs (v::acc) b g K
def tF(tmps:Array Value)(x:ResultVar):Sem Value:=match x with
 | .tmp t=>pure (tmps.getD t undef)
 | .cell a t=>do
  loadVar t (<-asAddr (tmps.getD a undef))
theorem nt{P:Program}{n:Nat}{a:Act}{d:Env}(i:Rel n a d){g:Hp}{K:KH}{w:World}(j:Fits w g):∀(rs:List ResultVar) (acc:List Value),vc P rs acc d g K->
 ∃c,(rs.mapM (tF a.tmps)).run P w= .ok c w/\Fin K (CE (acc.reverse++c)) g
 | [],acc,h=>⟨[],by simp,by simpa[vc]using h⟩
 | .tmp t::rs,acc,h=>by
  obtain⟨c,k,l⟩:=nt i j rs (d t::acc) h;refine⟨d t::c,?_,by simpa using l⟩;rw[List.mapM_cons];simp only[Sem.run_bind,tF,Sem.run_pure,Result.andThen_ok,k,i.2.2 t]
 | .cell x t::rs,acc,h=>by
  simp only[vc]at h;obtain⟨v,r,f⟩:=uA h;obtain⟨c,k,l⟩:=nt i j rs (v::acc) r;refine⟨v::c,?_,by simpa using l⟩;rw[List.mapM_cons];have p:=f w j
  have m:∃q,d x= .pointer (some q):=by
   unfold kZ at h;split at h
   ·rename_i b o e;exact⟨_,e⟩
   ·exact h.elim
  obtain⟨q,m⟩:=m
  have s:(tF a.tmps (.cell x t)).run P w= .ok v w:=by
   simp only[tF,i.2.2 x];rw[m]at p⊢;simpa[Instr.loadAt,Instr.sureAddr,asAddr]using p
  simp only[Sem.run_bind,s,Result.andThen_ok,k,Sem.run_pure]
theorem rR{P:Program}{fn:Func}{tmps:Array Value}{w:World}{a:List Value}(h:(fn.results.toList.mapM (tF tmps)).run P w= .ok a w):(results fn tmps).run P w= .ok (CE a) w:=by
 have e:(results fn tmps)=(do
  let a<-fn.results.mapM (tF tmps)
  pure (if h:a.size=1 then a[0]else .tuple a)):=rfl
 rw[e,Array.mapM_eq_mapM_toList];simp only[Sem.run_bind,Sem.run_map,h,Result.andThen_ok,Sem.run_pure];congr 1
 match a with
 | []=>rfl
 | [v]=>rfl
 |v::u::l=>rfl
def iS:List Value->Nat->Env
 | [],_=>λ_=>undef
 |v::l,k=>(iS l (k+1)).upd k v
theorem oG:∀(l:List Value) (k t:Nat),iS l k t=if k<=t then(l[t-k]?).getD undef else undef
 | [],k,t=>by simp[iS]
 |v::l,k,t=>by
  simp only[iS,Env.upd];rw[oG l (k+1) t];by_cases e:t=k
  ·subst e;simp
  ·rw[if_neg e];by_cases a:k<=t
   ·have b:k+1<=t:=by omega
    rw[if_pos a,if_pos b];obtain⟨d,rfl⟩:∃d,t=k+1+d:=⟨t-(k+1),by omega⟩;rw[show k+1+d-(k+1)=d from by omega,show k+1+d-k=d+1 from by omega];simp
   ·rw[if_neg a,if_neg (by omega)]
theorem yY{args:Array Value}{n:Nat}(c:args.size<=n):Rel n ⟨args++Array.replicate (n-args.size) undef,[]⟩ (iS args.toList 0):=by
 refine⟨rfl,by simp;omega,λt=>?_⟩;rw[oG];simp only[Y5,if_true,q3i,q1u];simp only[q2k];by_cases a:t<args.size
 ·rw[Array.getElem?_append_left a]
 ·have b:args[t]?=none:=Array.getElem?_eq_none (by omega);rw[Array.getElem?_append_right (by omega),b];simp[Array.getElem?_replicate];split<;>rfl
theorem LI {P:Program} (A:P.follows .mixedOrders=true) {f:FuncId} {fn:Func} {c:Code} (B:P.funcs[f]?=some fn) (C:fn.body=some c) {n:Nat} (hn:fn.ntmps=n) {rs:Array ResultVar} (D:fn.results=rs)
 (q:((aL c).all λt=>decide (t<n))=true) {args:Array Value} (E:args.size<=n) {h:Hp} {K:KH}
 (F:Wf h->avc P c (λk g=>vc P rs.toList [] k g K) (λk g=>vc P rs.toList [] k g K) (λ_ _ _=>False) (iS args.toList 0) h):vK P f args h K:=by
 intro w s;refine calls_of_wp B C ?_;rw[hn];have hd:∀t∈aL c,t<n/\(aL c).contains t=true:=λt u=>⟨by simpa using q0a.1 q t u,by simpa using u⟩
 have G:=Jt A (w0:=w) c (aL c) hd _ _ _ _ _ h _ w (F s.wf) (yY E) s (bO.refl w) (λ_ _=>rfl);refine Code.wp_mono (λe a m p=>?_) G
 have fin:∀k g,Rel n a k->Is m g->bO w m->vc P rs.toList [] k g K->a.defers=[]/\∃v,(results fn a.tmps).run P m= .ok v m/\∃x y,Ending.returned v= .returned x/\Is m y/\bO w m/\K x y:=by
  intro k g b d j l;obtain⟨J,z,H,o,r⟩:=nt b d.2 rs.toList [] l;rw[<-D]at z;exact⟨b.1,_,rR z,_,H,rfl,d.sub o,j,r⟩
 cases e with
 |normal=>obtain⟨k,g,b,d,j,_,l⟩:=p;exact fin k g b d j l
 |ret=>obtain⟨k,g,b,d,j,_,l⟩:=p;exact fin k g b d j l
 |exit i=>obtain⟨k,g,b,d,j,_,l⟩:=p;exact l.elim
 |_=>exact p.elim
inductive PM (α:Type)where
 |nil
 |node (l:PM α) (v:Option α) (r:PM α)
def PM.get {α:Type} (t:PM α):Nat->Option α:=
 PM.rec (λ_=>none) (λ_ v _ gl gr n=>Nat.rec v (λm _=>Nat.rec (gl (Nat.div m 2)) (λ_ _=>gr (Nat.div m 2)) (Nat.mod m 2)) n) t
def PM.set {α:Type} (v:Option α) (f:Nat):PM α->Nat->PM α:=
 Nat.rec (λ_ _=> .nil) (λ_ a t n=>PM.rec
  (Nat.rec (.node .nil v .nil) (λm _=>Nat.rec (.node (a .nil (Nat.div m 2)) none .nil) (λ_ _=> .node .nil none (a .nil (Nat.div m 2))) (Nat.mod m 2)) n)
  (λl u r _ _=>Nat.rec (.node l v r) (λm _=>Nat.rec (.node (a l (Nat.div m 2)) u r) (λ_ _=> .node l u (a r (Nat.div m 2))) (Nat.mod m 2)) n) t) f
inductive AV where
 |int (k:IntKind) (n:Int)
 |str (s:List Nat)
 |bool (b:Bool)
 |nil
 |ptr (b o:Nat)
 |nsl
 |sl (b o n c k:Nat)
 |esl (b:Nat)
 |agg (l:List AV)
 |tup (l:List AV)
 |fn (f:Nat) (a c:List AV)
 |map (b:Nat)
 |any (v:Value)
 |bad
 |si (k:IntKind) (n:Int)
 |sb (b:Bool)
 |ss (s:List Nat)
 |sy (b o n c k:Nat)
 |rw (b o n k x:Nat)
 |fr (n k:Nat) (l:List AV)
 |fa (l:List AV) (o:Nat)
structure Fz where
 B:Nat
 s:Nat
 L:List AV
structure HP where
 P:(Fz->Prop)->(Nat->Prop)->Hp->Prop
 loc:∀z S h g,h.n<=g.n->(∀B,S B->g.f B=h.f B)->P z S h->P z S g
 mono:∀z z' S h,(∀q,z q->z' q)->P z S h->P z' S h
 ex:∀z S h B,P z S h->S B->∃o,h.f B=some o
inductive AO where
 |cells (l:List AV) (z:Bool)
 |map (es:List (AV×AV))
 |mp (es:List (AV×AV)) (bs:List Nat) (cl:Nat)
 |ro (l:List AV)
 |iter (b m:Nat) (seen:List Nat)
 |sep (Q:HP)
abbrev AE:=PM AV
abbrev AH:=PM AO
def cg:AV:= .tup []
def CF:Value->AV
 | .int k n=> .int k n
 | .string s=> .str (s.data.toList.map UInt8.toNat)
 | .bool b=> .bool b
 | .pointer none=> .nil
 | .slice none 0 0=> .nsl
 |v=> .any v
def ofV:Value->AV
 | .agg cs=> .agg (cs.toList.map CF)
 | .tuple cs=> .tup (cs.toList.map CF)
 |v=>CF v
def AV.cells:AV->List AV
 | .agg l=>l
 |v=> [v]
def oH:AV->Bool
 | .agg _| .tup _=>false
 | .any v=>v.oneCell'
 | .bad=>false
 |_=>true
def okC:AV->Bool
 | .bad=>false
 | .any u=>u.oneCell'
 |_=>true
def eR:Nat:=30
def aa:Nat:=40
inductive Pa where
 |stop
 |here
 |lo (p:Pa)
 |hi (p:Pa)
def pathOf (f:Nat):Nat->Pa:=
 Nat.rec (λ_=> .stop) (λ_ a n=>Nat.rec .here (λm _=>Nat.rec (.lo (a (Nat.div m 2))) (λ_ _=> .hi (a (Nat.div m 2))) (Nat.mod m 2)) n) f
def pa (t:Nat):Pa:=pathOf eR t
def Yf (v:Option AV):AV:=Option.rec .bad (λa=>a) v
def bj (p:Pa):AE->AV:=
 Pa.rec (λ_=> .bad) (λt=>PM.rec .bad (λ_ v _ _ _=>Yf v) t) (λ_ a t=>PM.rec .bad (λl _ _ _ _=>a l) t) (λ_ a t=>PM.rec .bad (λ_ _ r _ _=>a r) t) p
def tG (v:AV) (p:Pa):AE->AE:=
 Pa.rec (λ_=> .nil) (λt=>PM.rec (.node .nil (some v) .nil) (λl _ r _ _=> .node l (some v) r) t)
  (λ_ a t=>PM.rec (.node (a .nil) none .nil) (λl u r _ _=> .node (a l) u r) t) (λ_ a t=>PM.rec (.node .nil none (a .nil)) (λl u r _ _=> .node l u (a r)) t) p
def Yg (d:Option Nat) (v:AV) (σ:AE):AE:=Option.rec σ (λt=>tG v (pa t) σ) d
def eev (σ:AE):Operand->AV
 | .tmp t=>bj (pa t) σ
 | .const v=>ofV v
 | .func f=> .fn f [] []
 | .global g=> .any (.pointer (some ⟨g,0,none⟩))
def cU (σ:AE) (d:Option Nat) (v:AV):AE:=Yg d v σ
def nth {a:Type}:List a->Nat->Option a
 | [],_=>none
 |x::_,0=>some x
 |_::l,n+1=>nth l n
def dh:List Nat->List Nat->Bool
 | [],[]=>true
 |a::x,b::y=>(match Nat.beq a b with
  |true=>dh x y
  |false=>false)
 |_,_=>false
def ltL:List Nat->List Nat->Bool
 |_,[]=>false
 | [],_::_=>true
 |a::x,b::y=>(match Nat.beq a b with
  |true=>ltL x y
  |false=>Nat.blt a b)
def bq {a:Type} (l:List a) (o n:Nat):Option (List a):=(match Nat.ble (o+n) l.length with
 |true=>some ((l.drop o).take n)
 |false=>none)
def fA {a:Type}:List a->Nat->List a->Option (List a)
 |l,0,[]=>some l
 | [],0,_::_=>none
 | [],_+1,_=>none
 |_::l,0,x::xs=>(fA l 0 xs).map (x::·)
 |y::l,o+1,xs=>(fA l o xs).map (y::·)
def yZ (P:Program) (t:TypeId) (a:AV) (H:AH):Option AV:=match a with
 | .ptr b o=>(match H.get b with
  |some (.cells l _)=>(match nX P t with
   |some false=>nth l o
   |some true=>(match aE P t with
    |some n=>(bq l o n).map .agg
    |none=>none)
   |none=>none)
  |some (.ro l)=>(match nX P t with
   |some false=>nth l o
   |some true=>(match aE P t with
    |some n=>(bq l o n).map .agg
    |none=>none)
   |none=>none)
  |_=>none)
 |_=>none
def Pp (op:BinOp) (k c:IntKind) (a b:Int):Option AV:=match op with
 | .shl=>if 0<=b then some (.int k (k.wrap (a*2^min b.toNat k.bits)))else none
 | .shr=>if 0<=b then some (.int k (a.fdiv (2^min b.toNat k.bits)))else none
 |op=>if k=c then(match op with
  | .add=>some (.int k (k.wrap (a+b)))
  | .sub=>some (.int k (k.wrap (a-b)))
  | .mul=>some (.int k (k.wrap (a*b)))
  | .quo=>if b=0 then none else some (.int k (k.wrap (a.tdiv b)))
  | .rem=>if b=0 then none else some (.int k (a.tmod b))
  | .and=>some (.int k (cf .and k a b))
  | .or=>some (.int k (cf .or k a b))
  | .xor=>some (.int k (cf .xor k a b))
  | .andNot=>some (.int k (cf .andNot k a b))
  | .eql=>some (.bool (decide (a=b)))
  | .neq=>some (.bool (!decide (a=b)))
  | .lss=>some (.bool (decide (a<b)))
  | .leq=>some (.bool (decide (a<=b)))
  | .gtr=>some (.bool (decide (b<a)))
  | .geq=>some (.bool (decide (b<=a)))
  |_=>none)else none
def LJ (op:BinOp) (a b:List Nat):Option AV:=match op with
 | .add=>if a.length+b.length<=9223372036854775807 then some (.str (a++b))else none
 | .eql=>some (.bool (dh a b))
 | .neq=>some (.bool (!dh a b))
 | .lss=>some (.bool (ltL a b))
 | .leq=>some (.bool (ltL a b||dh a b))
 | .gtr=>some (.bool (!(ltL a b||dh a b)))
 | .geq=>some (.bool (!ltL a b))
 |_=>none
def LK:AV->Option Bool
 | .nil=>some true
 | .ptr _ _=>some false
 | .any (.pointer a)=>some a.isNone
 |_=>none
def LL:AV->Option Bool
 | .nsl=>some true
 | .sl .. =>some false
 | .esl _=>some false
 |_=>none
def qy (op:BinOp) (q:Option Bool):Option AV:=match q with
 |none=>none
 |some q=>(match op with
  | .eql=>some (.bool q)
  | .neq=>some (.bool (!q))
  |_=>none)
def jJ (xs c:List AV):List (Nat×Nat)->Option Bool
 | []=>some true
 |(k,o)::l=>(match nth xs o,nth c o with
  |some (.int d a),some (.int e b)=>if k=0/\d=e then(jJ xs c l).map (decide (a=b)&&·)else none
  |some (.str a),some (.str b)=>if k=1 then(jJ xs c l).map (dh a b&&·)else none
  |some (.bool a),some (.bool b)=>if k=2 then(jJ xs c l).map ((a==b)&&·)else none
  |_,_=>none)
def Fe (P:Program) (t:TypeId):Bool:=match P.underlying t with
 |some (.pointer _)=>true
 |_=>false
def wi (P:Program) (t:TypeId):Bool:=match P.underlying t with
 |some (.slice _)=>true
 |_=>false
def vm (P:Program) (t:TypeId):Bool:=match P.underlying t with
 |some .bool=>true
 |_=>false
def AG (H:AH) (b:Nat):Bool:=match H.get b with
 |some (.cells _ true)=>true
 |_=>false
def VJ (P:Program) (t:TypeId) (H:AH) (b o a o':Nat):Option Bool:=match P.underlying t with
 |some (.pointer e)=>(match aE P e with
  |some (_+1)=>(match Nat.beq b a&&Nat.beq o o' with
   |true=>some true
   |false=>if AG H b&&AG H a then some false else none)
  |_=>none)
 |_=>none
def yK (P:Program) (op:BinOp) (t:TypeId) (x y:AV) (H:AH):Option AV:=match x,y with
 | .int k a,.int c b=>Pp op k c a b
 | .str a,.str b=>LJ op a b
 | .bool a,.bool b=>if vm P t then qy op (some (a==b))else none
 | .ptr b o,.ptr d e=>qy op (VJ P t H b o d e)
 |x,.nil=>if Fe P t then qy op (LK x)else none
 |x,.nsl=>if wi P t then qy op (LL x)else none
 | .agg xs,.agg f=>qy op ((iN P t).bind (jJ xs f))
 |_,_=>none
def eun (op:UnOp) (x:AV):Option AV:=match op,x with
 | .not,.bool b=>some (.bool (!b))
 | .neg,.int k n=>some (.int k (k.wrap (0-n)))
 | .xor,.int k n=>some (.int k (cf .xor k (if k.signed then-1 else k.max) n))
 |_,_=>none
def y5 (P:Program) (t:TypeId) (l:List AV) (off:Nat):Option AV:=match nX P t with
 |some false=>nth l off
 |some true=>(match aE P t with
  |some n=>(bq l off n).map .agg
  |none=>none)
 |none=>none
def Ff (P:Program) (s:TypeId) (x:AV) (i:Nat):Option AV:=match x,pM P s i with
 | .agg l,some (t,off)=>y5 P t l off
 |_,_=>none
def qO (P:Program) (s:TypeId) (x:AV) (i:Nat):Option AV:=match x,pM P s i with
 | .ptr b o,some (_,off)=>some (.ptr b (o+off))
 | .fa l o,some (_,off)=>some (.fa l (o+off))
 |_,_=>none
def eix (ix:AV) (len:Nat):Option Nat:=match ix with
 | .int _ (.ofNat i)=>(match Nat.blt i len with
  |true=>some i
  |false=>none)
 |_=>none
def qQ (P:Program) (t:TypeId) (x ix:AV):Option AV:=match P.underlying t,x with
 |some (.slice e),.sl b o n _ _=>(match eix ix n,aE P e with
  |some i,some k=>some (.ptr b (o+i*k))
  |_,_=>none)
 |some (.array len e),.ptr b o=>(match eix ix len,aE P e with
  |some i,some k=>some (.ptr b (o+i*k))
  |_,_=>none)
 |_,_=>none
def Fg (P:Program) (t:TypeId) (x ix:AV):Option AV:=match P.underlying t,x with
 |some (.array len e),.agg l=>(match eix ix len,aE P e with
  |some i,some k=>y5 P e l (i*k)
  |_,_=>none)
 |some .string,.str s=>(match eix ix s.length with
  |some i=>(nth s i).map λc=> .int .u8 (Int.ofNat c)
  |none=>none)
 |_,_=>none
def wj (x:AV) (i:Nat):Option AV:=match x with
 | .tup l=>nth l i
 |_=>none
def mC (x:Option AV) (d:Nat):Option Nat:=match x with
 |none=>some d
 |some (.int _ (.ofNat i))=>some i
 |_=>none
def jk (P:Program) (t:TypeId) (x:AV) (lo hi mx:Option AV):Option AV:=match x with
 | .str s=>(match P.underlying t,mx,mC lo 0,mC hi s.length with
  |some .string,none,some l,some h=>if l<=h/\h<=s.length then some (.str ((s.drop l).take (h-l)))else none
  |_,_,_,_=>none)
 | .nsl=>(match P.underlying t,mC lo 0,mC hi 0,mC mx 0 with
  |some (.slice e),some l,some h,some m=>if l=0/\h=0/\m=0/\(mx.isSome=true->hi.isSome=true)/\(aE P e).isSome=true then some .nsl else none
  |_,_,_,_=>none)
 | .esl b=>(match P.underlying t,mx,mC lo 0,mC hi 0 with
  |some (.slice e),none,some l,some h=>if l=0/\h=0/\(aE P e).isSome=true then some (.esl b)else none
  |_,_,_,_=>none)
 | .sl b o n c k=>(match P.underlying t with
  |some (.slice e)=>(match aE P e,mC lo 0,mC hi n,mC mx c with
   |some es,some l,some h,some m=>if l<=h/\h<=m/\m<=c then
    (match k,mx with
    |0,none=>some (.sl b (if m=l then o else o+l*es) (h-l) (m-l) 0)
    |0,some _=>if hi.isSome=true then some (.sl b (if m=l then o else o+l*es) (h-l) (m-l) 0)else none
    |a+1,none=>if es=a+1 then(if l=0∨l<c then some (.sl b (o+l*es) (h-l) (c-l) (a+1))else some (.esl b))else none
    |_+1,some _=>if hi.isSome=true then some (.sl b (if m=l then o else o+l*es) (h-l) (m-l) 0)else none)
    else none
   |_,_,_,_=>none)
  |_=>none)
 |_=>none
def Ju (P:Program) (t:TypeId) (x:AV) (H:AH):Option AV:=match P.underlying t,x with
 |some .string,.str s=>some (.int .i64 s.length)
 |some (.slice _),.nsl=>some (.int .i64 0)
 |some (.slice _),.esl _=>some (.int .i64 0)
 |some (.slice _),.sl _ _ n _ _=>some (.int .i64 n)
 |some (.array n _),_=>some (.int .i64 n)
 |some (.map _ _),.map b=>(match H.get b with
  |some (.map es)=>some (.int .i64 es.length)
  |some (.mp es _ _)=>some (.int .i64 es.length)
  |_=>none)
 |_,_=>none
def emm (mx:Bool) (x y:AV):Option AV:=match x,y with
 | .int k a,.int _ b=>some (.int k (if mx then max a b else min a b))
 |_,_=>none
def y6 (place:Nat->Option (Nat×Nat)) (cells:List AV):List (Nat×AV)->Option (List AV)
 | []=>some cells
 |(i,v)::rest=>(match place i with
  |none=>none
  |some (off,size)=>(match Nat.beq v.cells.length size&&(okC v&&Nat.ble (off+size) cells.length),fA cells off v.cells with
   |true,some c=>y6 place c rest
   |_,_=>none))
def Fh (P:Program) (t:TypeId) (parts:List (Nat×AV)):Option (List AV):=
 match cZ P t with
 |some z=>(match P.underlying t with
  |some (.struct a)=>if(a.toList.all λf=>(aE P f.type).isSome)=true then y6 (iO P a) (ofV z).cells parts else none
  |some (.array _ e)=>(match aE P e with
   |some s=>y6 (λi=>some (i*s,s)) (ofV z).cells parts
   |none=>none)
  |_=>none)
 |none=>none
def wm:List AV->List AV->Option Bool
 | [],[]=>some true
 | .str a::xs,.str b::c=>(wm xs c).map (dh a b&&·)
 |_,_=>none
def CG (d:TypeDesc) (a b:AV):Option Bool:=match d,a,b with
 | .int _,.int k n,.int e m=>if k=e then some (decide (n=m))else none
 | .string,.str s,.str r=>some (dh s r)
 | .struct f,.agg xs,.agg c=>(match jJ xs c (kh f),wm xs c with
  |some p,some q=>if p=q then some q else none
  |_,_=>none)
 |_,_,_=>none
def AI (a:TypeDesc) (k:AV):Bool:=match a,k with
 | .struct b,.agg xs=>(jJ xs xs (kh b)).isSome
 | .struct _,_=>false
 |_,_=>true
def mD (a:TypeDesc) (k:AV):List (AV×AV)->Nat->Option (Option (Nat×AV))
 | [],_=>(match AI a k with
  |true=>some none
  |false=>none)
 |e::es,i=>(match CG a k e.1 with
  |some true=>some (some (i,e.2))
  |some false=>mD a k es (i+1)
  |none=>none)
def tH (P:Program) (a:TypeDesc) (b:TypeId) (k:AV) (ok:Bool) (es:List (AV×AV)):Option AV:=match mD a k es 0 with
 |some (some (_,v))=>some (if ok then .tup [v,.bool true]else v)
 |some none=>(match cZ P b with
  |some z=>some (if ok then .tup [ofV z,.bool false]else ofV z)
  |none=>none)
 |none=>none
def jC (P:Program) (t:TypeId) (m k:AV) (ok:Bool) (H:AH):Option AV:=match m,dM P t with
 | .map b,some (_,a,c)=>(match H.get b with
  |some (.map es)=>tH P a c k ok es
  |some (.mp es _ _)=>tH P a c k ok es
  |_=>none)
 |_,_=>none
def rS (P:Program) (o:Op) (σ:AE) (H:AH):Option AV:=
 match o with
 | .move x=>some (eev σ x)
 | .assign x=>some (eev σ x)
 | .pick c a b=>(match eev σ c with
  | .bool true=>some (eev σ a)
  | .bool false=>some (eev σ b)
  |_=>none)
 | .build t parts=>(Fh P t (parts.toList.map λx=>(x.1,eev σ x.2))).map .agg
 | .load t a=>yZ P t (eev σ a) H
 | .nilCheck x=>(match eev σ x with
  | .ptr b o=>some (.ptr b o)
  | .fn f a c=>some (.fn f a c)
  |_=>none)
 | .binOp op t x y _=>yK P op t (eev σ x) (eev σ y) H
 | .unOp op _ x=>eun op (eev σ x)
 | .makeFunc (.func f) first captured=>some (.fn f (first.toList.map (eev σ)) (captured.toList.map (eev σ)))
 | .slice t x lo d mx=>jk P t (eev σ x) (lo.map (eev σ)) (d.map (eev σ)) (mx.map (eev σ))
 | .fieldAddr s x i=>qO P s (eev σ x) i
 | .field t x i=>Ff P t (eev σ x) i
 | .indexAddr t x ix=>qQ P t (eev σ x) (eev σ ix)
 | .index t x ix=>Fg P t (eev σ x) (eev σ ix)
 | .extract x i=>wj (eev σ x) i
 | .lookup t m k ok=>jC P t (eev σ m) (eev σ k) ok H
 | .call c=>(match c.callee,c.argTypes.toList,c.args.toList.map (eev σ)with
  | .builtin .len,[t],[x]=>Ju P t x H
  | .builtin .min,_,[x,y]=>emm false x y
  | .builtin .max,_,[x,y]=>emm true x y
  |_,_,_=>none)
 |_=>none
abbrev AR:=Option (AV×AH×Nat)
def Pq (l:List AV) (H:AH) (n:Nat):AR:=some (.ptr n 0,H.set (some (.cells l true)) aa n,n+1)
def AJ (P:Program) (t:TypeId) (a v:AV) (H:AH) (n:Nat):AR:=match a with
 | .ptr b o=>(match H.get b,aE P t with
  |some (.cells l z),some s=>(match Nat.beq v.cells.length s&&(okC v&&v.cells.all oH),fA l o v.cells with
   |true,some c=>some (cg,H.set (some (.cells c z)) aa b,n)
   |_,_=>none)
  |_,_=>none)
 |_=>none
def iT (z:List AV):Nat->List AV
 |0=> []
 |n+1=>z++iT z n
def lj:List AV->Option (List Nat)
 | []=>some []
 | .int .u8 (.ofNat n)::l=>(match Nat.blt n 256 with
  |true=>(lj l).map (n::·)
  |false=>none)
 | .si .u8 (.ofNat n)::l=>(match Nat.blt n 256 with
  |true=>(lj l).map (n::·)
  |false=>none)
 |_=>none
def CH (P:Program) (src dst:TypeId) (x:AV) (H:AH) (n:Nat):AR:=match P.underlying src,P.underlying dst,x with
 |some (.int _),some (.int k),.int _ a=>some (.int k (k.wrap a),H,n)
 |some .string,some .string,.str s=>some (.str s,H,n)
 |some .string,some (.slice e),.str s=>(match P.underlying e with
  |some (.int .u8)=>some (.sl n 0 s.length s.length 1,H.set (some (.cells (s.map λc=> .int .u8 (Int.ofNat c)) false)) aa n,n+1)
  |_=>none)
 |some (.slice e),some .string,.nsl=>(match P.underlying e with
  |some (.int .u8)=>some (.str [],H,n)
  |_=>none)
 |some (.slice e),some .string,.sl b o len _ _=>(match P.underlying e,H.get b with
  |some (.int .u8),some (.cells l _)=>((bq l o len).bind lj).map λs=>(.str s,H,n)
  |_,_=>none)
 |_,_,_=>none
def wo (P:Program) (t:TypeId) (len cap:AV) (H:AH) (n:Nat):AR:=match P.underlying t,len,cap with
 |some (.slice e),.int _ (.ofNat l),.int _ (.ofNat c)=>(match aE P e,kq P e,cZ P e with
  |some k,some a,some z=>if l<=c/\a*c<=281474976710656/\c<=9223372036854775807/\z.cells.size=k then
   some (.sl n 0 l c 0,H.set (some (.cells (iT (ofV z).cells c) true)) aa n,n+1)else none
  |_,_,_=>none)
 |_,_,_=>none
def Pr (H:AH) (k:Nat) (x:AV):Option (Nat×List AV):=match x with
 | .nsl=>some (0,[])
 | .sl b o n _ _=>(match H.get b with
  |some (.cells l _)=>(bq l o (n*k)).map (n,·)
  |some (.ro l)=>(bq l o (n*k)).map (n,·)
  |_=>none)
 | .esl b=>(match H.get b with
  |some (.cells _ _)=>some (0,[])
  |_=>none)
 | .str s=>some (s.length,s.map λc=> .int .u8 (Int.ofNat c))
 |_=>none
def rT (P:Program) (t u:TypeId) (s x:AV) (H:AH) (n:Nat):AR:=match P.underlying t,P.underlying u with
 |some (.slice e),some h=>(match h,aE P e,kq P e,cZ P e with
  | .int _,_,_,_=>none
  |_,some k,some d,some z=>(match Pr H k x with
   |some (m,new)=>if z.cells.size=k/\0<d/\0<k/\new.length=m*k/\new.all oH=true then(match s with
    | .nsl=>(match m with
     |0=>some (.nsl,H,n)
     |_=>if m*d<=140737488355328 then some (.sl n 0 m m k,H.set (some (.cells new true)) aa n,n+1)else none)
    | .sl b o a c f=>(match H.get b with
     |some (.cells l g)=>if a+m<=c then(match fA l (o+a*k) new with
      |some i=>some (.sl b o (a+m) c f,H.set (some (.cells i g)) aa b,n)
      |none=>none)
      else if(a+m)*d<=140737488355328 then(match bq l o (a*k),f with
       |some old,0=>some (.sl n 0 (a+m) (a+m) k,H.set (some (.cells (old++new) true)) aa n,n+1)
       |some old,_+1=>if f=k then some (.sl n 0 (a+m) (a+m) k,(H.set none aa b).set (some (.cells (old++new) g)) aa n,n+1)else none
       |none,_=>none)
      else none
     |_=>none)
    |_=>none)else none
   |none=>none)
  |_,_,_,_=>none)
 |_,_=>none
def G4:AV->Option Nat
 | .nsl=>some 0
 | .sl _ _ n _ _=>some n
 | .esl _=>some 0
 | .str s=>some s.length
 |_=>none
def Fi (H:AH) (k q:Nat) (x:AV):Option (List AV):=match x with
 | .nsl=>some []
 | .sl b o _ _ _=>(match H.get b with
  |some (.cells l _)=>bq l o (q*k)
  |some (.ro l)=>bq l o (q*k)
  |_=>none)
 | .esl b=>(match H.get b,q with
  |some (.cells _ _),0=>some []
  |some (.ro _),0=>some []
  |_,_=>none)
 | .str s=>some ((s.take q).map λc=> .int .u8 (Int.ofNat c))
 |_=>none
def CI (P:Program) (t:TypeId) (d x:AV) (H:AH) (n:Nat):AR:=match P.underlying t,G4 x,G4 d with
 |some (.slice e),some m,some a=>(match aE P e with
  |some k=>(match Fi H k (min m a) x with
   |some cells=>(match d with
    | .nsl=>some (.int .i64 (min m a:Nat),H,n)
    | .esl b=>(match H.get b,cells with
     |some (.cells l z),[]=>some (.int .i64 (min m a:Nat),H.set (some (.cells l z)) aa b,n)
     |_,_=>none)
    | .sl b o _ _ _=>(match H.get b with
     |some (.cells l z)=>(match fA l o cells,cells.all oH with
      |some c,true=>some (.int .i64 (min m a:Nat),H.set (some (.cells c z)) aa b,n)
      |_,_=>none)
     |_=>none)
    |_=>none)
   |none=>none)
  |none=>none)
 |_,_,_=>none
def AK (P:Program) (t:TypeId) (len:Nat) (parts:List (Nat×AV)):Option (List AV):=match P.underlying t with
 |some (.slice e)=>(match aE P e,cZ P e with
  |some s,some z=>if len*s<=16777216/\z.cells.size=s then y6 (λi=>some (i*s,s)) (iT (ofV z).cells len) parts else none
  |_,_=>none)
 |_=>none
def lO (k v:AV):List (AV×AV)->Option (Nat×AV)->List (AV×AV)
 |es,none=>es++ [(k,v)]
 | [],some _=> []
 |_::es,some (0,_)=>(k,v)::es
 |e::es,some (i+1,u)=>e::lO k v es (some (i,u))
def lQ (P:Program) (t:TypeId) (m k v:AV) (H:AH) (n:Nat):AR:=match m,dM P t with
 | .map b,some (_,a,_)=>(match H.get b with
  |some (.map es)=>(match mD a k es 0 with
   |some r=>some (cg,H.set (some (.map (lO k v es r))) aa b,n)
   |none=>none)
  |some (.mp es bs cl)=>(match mD a k es 0 with
   |some none=>some (cg,H.set (some (.mp (lO k v es none) (bs++ [cl]) (cl+1))) aa b,n)
   |some (some y)=>some (cg,H.set (some (.mp (lO k v es (some y)) bs cl)) aa b,n)
   |none=>none)
  |_=>none)
 |_,_=>none
def Fj (P:Program) (t:TypeId) (m k:AV) (H:AH) (n:Nat):AR:=match m,dM P t with
 | .map b,some (_,a,_)=>(match H.get b with
  |some (.mp es bs cl)=>(match mD a k es 0 with
   |some none=>some (.tup [],H.set (some (.mp es bs cl)) aa b,n)
   |some (some (i,_))=>some (.tup [],H.set (some (.mp (es.eraseIdx i) (bs.eraseIdx i) cl)) aa b,n)
   |none=>none)
  |_=>none)
 |_,_=>none
abbrev AC:=FuncId->List AV->AH->Nat->AR
def Fk (P:Program) (t:TypeId) (x:AV) (H:AH) (n:Nat):AR:=match x with
 | .map b=>(match H.get b,Aw P t with
  |some (.map es),true=>some (.ptr n 0,H.set (some (.iter b es.length [])) aa n,n+1)
  |some (.mp _ _ cl),true=>some (.ptr n 0,H.set (some (.iter b cl [])) aa n,n+1)
  |_,_=>none)
 |_=>none
def G5 (P:Program) (call:AC) (o:Op) (σ:AE) (H:AH) (n:Nat):AR:=
 match o with
 | .alloc e=>(match cZ P e with
  |some z=>Pq (ofV z).cells H n
  |none=>none)
 | .box _ x=>(match okC (eev σ x)with
  |true=>Pq (eev σ x).cells H n
  |false=>none)
 | .buildSlice t len parts=>(match AK P t len (parts.toList.map λx=>(x.1,eev σ x.2))with
  |some l=>some (.sl n 0 len len 0,H.set (some (.cells l true)) aa n,n+1)
  |none=>none)
 | .store t a x=>AJ P t (eev σ a) (eev σ x) H n
 | .convert src dst x=>CH P src dst (eev σ x) H n
 | .makeSlice t l c=>wo P t (eev σ l) (eev σ c) H n
 | .makeMap _ none=>some (.map n,H.set (some (.map [])) aa n,n+1)
 | .mapUpdate t m k x=>lQ P t (eev σ m) (eev σ k) (eev σ x) H n
 | .insert t m k x=>lQ P t (eev σ m) (eev σ k) (eev σ x) H n
 | .range t x=>Fk P t (eev σ x) H n
 | .call c=>(match c.callee with
  | .value f=>(match eev σ f with
   | .fn g a cs=>call g (a++c.args.toList.map (eev σ)++cs) H n
   |_=>none)
  | .builtin .append=>(match c.argTypes.toList,c.args.toList.map (eev σ)with
   | [t,u],[s,x]=>rT P t u s x H n
   |_,_=>none)
  | .builtin .copy=>(match c.argTypes.toList,c.args.toList.map (eev σ)with
   | [t,_],[s,x]=>CI P t s x H n
   |_,_=>none)
  | .builtin .delete=>(match c.argTypes.toList,c.args.toList.map (eev σ)with
   | [t,_],[s,x]=>Fj P t s x H n
   |_,_=>none)
  |_=>(match rS P (.call c) σ H with
   |some v=>some (v,H,n)
   |none=>none))
 |o=>(match rS P o σ H with
  |some v=>some (v,H,n)
  |none=>none)
def y8:List AV->AV
 | [v]=>v
 |l=> .tup l
def wq:List AV->Nat->AE->AE
 | [],_,σ=>σ
 |v::l,k,σ=>wq l (k+1) (σ.set (some v) eR k)
end Go.Proofs.YtflehenfikoniaaGreat
namespace Go.Proofs.YtflehenfikoniaaGreat
open Go
theorem tab.mixed:Tryz.prog.follows .mixedOrders=true:=by kernel_rfl
end Go.Proofs.YtflehenfikoniaaGreat
namespace Go.Proofs.YtflehenfikoniaaGreat
open Go Go.RowKit
def tI(r:Option (List UInt8))(C:Value->Prop):Prop:=match r with
 |some l=>C (.string ⟨l.toArray⟩)
 |none=>False
section
variable (P:Program) (C:Value->Prop) (t:TypeId) (h:Hp) (K:KH) (b o n i:Nat) (x y v:Value)
theorem wu(d:Int):bnd none d=some d:=id rfl
end
section
variable (P:Program) (ops:Array Oper) (l:List Oper) (ρ:Env) (h:Hp) (N R:EH) (X:Nat->EH) (K:KH) (C:Value->Prop) (d:Option Nat) (op:Op) (ty:TypeId) (pos:String) (af:Array Edge)
def gs:List Oper->Nat->Option Nat
 | [],_=>none
 |o::_,0=>o.dst
 |_::l,n+1=>gs l n
end
attribute [go_sem↓] rH mz
attribute [go_sem] wu Lp I9 Ja Lq bX pN dX rL iO eu cO cQ bytesOf
attribute [go_sem] ky found Lu chg
attribute [go_sem] Bool.not_not true_or or_true false_or or_false Z6 Y5 Am List.set_cons_zero if_true if_false Int.le_refl
attribute [go_sem] Bool.not_true Bool.not_false q1r List.map_nil List.map_toArray List.append_toArray q2f q1q q0z q0h q2l Option.isSome_some Option.isSome_none Option.isNone_some Option.isNone_none
attribute [go_sem] List.getElem?_toArray q1t q1g q2e Value.cells List.size_toArray Z9 q1j q1x List.all_nil Value.oneCell' Bool.and_true Bool.true_and true_and and_true eq_self List.setIfInBounds_toArray List.set_cons_zero List.set_cons_succ
attribute [go_sem] vL cP
theorem aj{x:Int}(a: -9223372036854775808<=x)(b:x<=9223372036854775807):IntKind.i64.wrap x=x:=by
 rw[IntKind.wrap_i64];omega
theorem mh(z:List Value):∀n,(cQ z n).length=n*z.length
 |0=>by simp[cQ]
 |n+1=>by simp[cQ,mh z n,Nat.succ_mul,q4q]
attribute [go_sem] q1m
section
variable {α:Type} (v:Option α) (f n:Nat) (l r:PM α) (u:Option α)
theorem PM.get_nil:(PM.nil:PM α).get n=none:=id rfl
theorem PM.bw:(PM.node l u r).get (n+1)=if n%2=0 then l.get (n/2)else r.get (n/2):=by
 show(Nat.rec (l.get (n/2)) (λ_ _=>r.get (n/2)) (n%2):Option α)=_;rcases q2h n with e|e<;>rw[e]<;>rfl
theorem PM.LM(t:PM α):PM.set v 0 t n= .nil:=id rfl
theorem PM.LN:PM.set v (f+1) .nil 0= .node .nil v .nil:=id rfl
theorem PM.CJ:PM.set v (f+1) .nil (n+1)=if n%2=0 then .node (PM.set v f .nil (n/2)) none .nil else .node .nil none (PM.set v f .nil (n/2)):=by
 show(Nat.rec (.node (PM.set v f .nil (n/2)) none .nil) (λ_ _=> .node .nil none (PM.set v f .nil (n/2))) (n%2):PM α)=_;rcases q2h n with e|e<;>rw[e]<;>rfl
theorem PM.Jv:PM.set v (f+1) (.node l u r) 0= .node l v r:=id rfl
theorem PM.y9:PM.set v (f+1) (.node l u r) (n+1)=if n%2=0 then .node (PM.set v f l (n/2)) u r else .node l u (PM.set v f r (n/2)):=by
 show(Nat.rec (.node (PM.set v f l (n/2)) u r) (λ_ _=> .node l u (PM.set v f r (n/2))) (n%2):PM α)=_;rcases q2h n with e|e<;>rw[e]<;>rfl
end
theorem PM.ak{α:Type}{v:Option α}:∀(f:Nat) (t:PM α) (n m:Nat) (x:α),(PM.set v f t n).get m=some x->(m=n/\v=some x)∨(m≠n/\t.get m=some x)
 |0,t,n,m,x,h=>by rw[PM.LM,PM.get_nil]at h;cases h
 |f+1,.nil,0,m,x,h=>by
  rw[PM.LN]at h;cases m with
  |zero=>exact .inl ⟨rfl,h⟩
  |succ m=>rw[PM.bw]at h;split at h<;>cases h
 |f+1,.nil,n+1,m,x,h=>by
  rw[PM.CJ]at h;cases m with
  |zero=>split at h<;>cases h
  |succ m=>
   split at h
   ·rw[PM.bw]at h;split at h
    ·rcases PM.ak f .nil (n/2) (m/2) x h with⟨c,a⟩|⟨_,a⟩
     ·exact .inl ⟨by omega,a⟩
     ·cases a
    ·cases h
   ·rw[PM.bw]at h;split at h
    ·cases h
    ·rcases PM.ak f .nil (n/2) (m/2) x h with⟨c,a⟩|⟨_,a⟩
     ·exact .inl ⟨by omega,a⟩
     ·cases a
 |f+1,.node l u r,0,m,x,h=>by
  rw[PM.Jv]at h;cases m with
  |zero=>exact .inl ⟨rfl,h⟩
  |succ m=>rw[PM.bw]at h;exact .inr ⟨by omega,by rw[PM.bw];exact h⟩
 |f+1,.node l u r,n+1,m,x,h=>by
  rw[PM.y9]at h;cases m with
  |zero=>split at h<;>exact .inr ⟨by omega,h⟩
  |succ m=>
   split at h
   ·rename_i hn;rw[PM.bw]at h;split at h
    ·rename_i b;rcases PM.ak f l (n/2) (m/2) x h with⟨c,a⟩|⟨c,a⟩
     ·exact .inl ⟨by omega,a⟩
     ·exact .inr ⟨by omega,by rw[PM.bw,if_pos b];exact a⟩
    ·rename_i b;exact .inr ⟨by omega,by rw[PM.bw,if_neg b];exact h⟩
   ·rename_i hn;rw[PM.bw]at h;split at h
    ·rename_i b;exact .inr ⟨by omega,by rw[PM.bw,if_pos b];exact h⟩
    ·rename_i b;rcases PM.ak f r (n/2) (m/2) x h with⟨c,a⟩|⟨c,a⟩
     ·exact .inl ⟨by omega,a⟩
     ·exact .inr ⟨by omega,by rw[PM.bw,if_neg b];exact a⟩
theorem PM.aF{α:Type}{v:Option α}{x:α}:∀(f:Nat) (t:PM α) (n m:Nat),n+1<2^f->m≠n->t.get m=some x->(PM.set v f t n).get m=some x
 |0,t,n,m,h,_,_=>by simp at h
 |f+1,.nil,n,m,h,c,e=>by cases e
 |f+1,.node l u r,0,m,h,c,e=>by
  cases m with
  |zero=>exact absurd rfl c
  |succ m=>
   show(PM.node l v r).get (m+1)=some x;rw[PM.bw]at e⊢;exact e
 |f+1,.node l u r,n+1,m,h,c,e=>by
  have a:(PM.node l u r).set v (f+1) (n+1)=(Nat.rec (.node (PM.set v f l (n/2)) u r) (λ_ _=> .node l u (PM.set v f r (n/2))) (n%2):PM α):=rfl
  have d:n/2+1<2^f:=by rw[q3t]at h;omega
  rcases q2h n with q|q<;>rw[q]at a
  ·have a:(PM.node l u r).set v (f+1) (n+1)= .node (PM.set v f l (n/2)) u r:=a;rw[a];cases m with
   |zero=>exact e
   |succ m=>
    rw[PM.bw]at e⊢;split
    ·rename_i b;rw[if_pos b]at e;exact PM.aF f l (n/2) (m/2) d (by omega) e
    ·rename_i b;rw[if_neg b]at e;exact e
  ·have a:(PM.node l u r).set v (f+1) (n+1)= .node l u (PM.set v f r (n/2)):=a;rw[a];cases m with
   |zero=>exact e
   |succ m=>
    rw[PM.bw]at e⊢;split
    ·rename_i b;rw[if_pos b]at e;exact e
    ·rename_i b;rw[if_neg b]at e;exact PM.aF f r (n/2) (m/2) d (by omega) e
theorem mE:∀(f n:Nat) (t:AE) (a:AV),bj (pathOf f n) t=a->a= .bad∨t.get n=some a
 |0,n,t,a,h=> .inl h.symm
 |f+1,0,t,a,h=>by
  cases t with
  |nil=>exact .inl h.symm
  |node l u r=>
   cases u with
   |none=>exact .inl h.symm
   |some v=>exact .inr (congrArg some h)
 |f+1,n+1,t,a,h=>by
  have b:pathOf (f+1) (n+1)=(Nat.rec (.lo (pathOf f (n/2))) (λ_ _=> .hi (pathOf f (n/2))) (n%2):Pa):=rfl
  rw[b]at h;cases t with
  |nil=>
   left;rcases q2h n with e|e<;>(rw[e]at h;exact h.symm)
  |node l u r=>
   rw[PM.bw];rcases q2h n with e|e
   ·rw[e]at h;rw[if_pos e];exact mE f (n/2) l a h
   ·rw[e]at h;rw[if_neg (by omega)];exact mE f (n/2) r a h
theorem oI{v:AV}:∀(f:Nat) (t:AE) (n m:Nat) (x:AV),(tG v (pathOf f n) t).get m=some x->(m=n/\v=x)∨(m≠n/\t.get m=some x)
 |0,t,n,m,x,h=>by cases h
 |f+1,t,0,m,x,h=>by
  cases t with
  |nil=>
   cases m with
   |zero=>exact .inl ⟨rfl,by injection h⟩
   |succ m=>
    have h:(PM.node PM.nil (some v) PM.nil).get (m+1)=some x:=h;rw[PM.bw]at h;split at h<;>cases h
  |node l u r=>
   cases m with
   |zero=>exact .inl ⟨rfl,by injection h⟩
   |succ m=>
    have h:(PM.node l (some v) r).get (m+1)=some x:=h;rw[PM.bw]at h;exact .inr ⟨by omega,by rw[PM.bw];exact h⟩
 |f+1,t,n+1,m,x,h=>by
  have g:pathOf (f+1) (n+1)=(Nat.rec (.lo (pathOf f (n/2))) (λ_ _=> .hi (pathOf f (n/2))) (n%2):Pa):=rfl
  rw[g]at h;have d:=oI (v:=v) f;rcases q2h n with e|e<;>rw[e]at h
  ·have h:(PM.rec (.node (tG v (pathOf f (n/2)) .nil) none .nil) (λl u r _ _=> .node (tG v (pathOf f (n/2)) l) u r) t:AE).get m=some x:=h;cases t with
   |nil=>
    have h:(PM.node (tG v (pathOf f (n/2)) .nil) none .nil).get m=some x:=h;cases m with
    |zero=>cases h
    |succ m=>
     rw[PM.bw]at h;split at h
     ·rcases d _ _ _ _ h with⟨c,a⟩|⟨_,a⟩
      ·exact .inl ⟨by omega,a⟩
      ·cases a
     ·cases h
   |node l u r=>
    have h:(PM.node (tG v (pathOf f (n/2)) l) u r).get m=some x:=h;cases m with
    |zero=>exact .inr ⟨by omega,h⟩
    |succ m=>
     rw[PM.bw]at h;split at h
     ·rename_i b;rcases d _ _ _ _ h with⟨c,a⟩|⟨c,a⟩
      ·exact .inl ⟨by omega,a⟩
      ·exact .inr ⟨by omega,by rw[PM.bw,if_pos b];exact a⟩
     ·rename_i b;exact .inr ⟨by omega,by rw[PM.bw,if_neg b];exact h⟩
  ·have h:(PM.rec (.node .nil none (tG v (pathOf f (n/2)) .nil)) (λl u r _ _=> .node l u (tG v (pathOf f (n/2)) r)) t:AE).get m=some x:=h;cases t with
   |nil=>
    have h:(PM.node .nil none (tG v (pathOf f (n/2)) .nil)).get m=some x:=h;cases m with
    |zero=>cases h
    |succ m=>
     rw[PM.bw]at h;split at h
     ·cases h
     ·rcases d _ _ _ _ h with⟨c,a⟩|⟨_,a⟩
      ·exact .inl ⟨by omega,a⟩
      ·cases a
   |node l u r=>
    have h:(PM.node l u (tG v (pathOf f (n/2)) r)).get m=some x:=h;cases m with
    |zero=>exact .inr ⟨by omega,h⟩
    |succ m=>
     rw[PM.bw]at h;split at h
     ·rename_i b;exact .inr ⟨by omega,by rw[PM.bw,if_pos b];exact h⟩
     ·rename_i b;rcases d _ _ _ _ h with⟨c,a⟩|⟨c,a⟩
      ·exact .inl ⟨by omega,a⟩
      ·exact .inr ⟨by omega,by rw[PM.bw,if_neg b];exact a⟩
structure Pl where
 B:Nat
 s:Nat
 T:Nat
structure Ph where
 f:Nat->Option Pl
 z:Fz->Prop
 y:Fz->Prop
 s:Nat->Nat->Prop
instance:CoeFun Ph (λ_=>Nat->Option Pl):=⟨Ph.f⟩
abbrev Ph.no:Ph:=⟨λ_=>none,λ_=>False,λ_=>False,λ_ _=>False⟩
structure PLe(φ ψ:Ph):Prop where
 b:∀b p,φ b=some p->ψ b=some p
 z:∀q,φ.z q->ψ.z q
 y:∀q,ψ.y q->φ.y q
structure SLe(φ ψ:Ph):Prop where
 b:∀b p,φ b=some p->ψ b=some p
 z:∀q,φ.z q->ψ.z q
instance {φ ψ:Ph}:CoeFun (SLe φ ψ) (λ_=>∀b p,φ b=some p->ψ b=some p):=⟨SLe.b⟩
theorem PLe.s{φ ψ:Ph}(h:PLe φ ψ):SLe φ ψ:=⟨h.b,h.z⟩
instance {φ ψ:Ph}:CoeFun (PLe φ ψ) (λ_=>∀b p,φ b=some p->ψ b=some p):=⟨PLe.b⟩
theorem PLe.refl(φ:Ph):PLe φ φ:=⟨λ_ _ h=>h,λ_ h=>h,λ_ h=>h⟩
theorem PLe.trans{a b c:Ph}(h:PLe a b)(k:PLe b c):PLe a c:=⟨λx p e=>k x p (h x p e),λq e=>k.z q (h.z q e),λq e=>h.y q (k.y q e)⟩
def eJ(s:List Nat):ByteArray:=⟨(s.map UInt8.ofNat).toArray⟩
def Emp(x:Nat)(v:Value):Prop:=v= .slice none 0 0∨(x=4/\∃a,v= .slice (some a) 0 0)
mutual
def VR(φ:Ph):AV->Value->Prop
 | .int k n,v=>v= .int k n
 | .str s,v=>v= .string (eJ s)/\∀x∈s,x<256
 | .bool b,v=>v= .bool b
 | .nil,v=>v= .pointer none
 | .ptr b o,v=>∃p,φ b=some p/\v= .pointer (some ⟨p.B,p.s+o,none⟩)
 | .nsl,v=>v= .slice none 0 0
 | .sl b o n c k,v=>∃p C,φ b=some p/\v= .slice (some ⟨p.B,p.s+o,none⟩) n C/\(k=0->C=c)/\(k≠0->c<=C/\o+C*k=p.T)
 | .esl b,v=>∃p x C,φ b=some p/\v= .slice (some ⟨p.B,x,none⟩) 0 C/\p.s<=x/\x<=p.s+p.T
 | .agg l,v=>∃cs,v= .agg cs/\VRs φ l cs.toList
 | .tup l,v=>∃cs,v= .tuple cs/\VRs φ l cs.toList
 | .fn f a c,v=>∃xs cs,v= .func (.func f) xs cs/\VRs φ a xs.toList/\VRs φ c cs.toList
 | .map b,v=>∃p,φ b=some p/\v= .map (some p.B)
 | .any u,v=>v=u
 | .bad,_=>True
 | .si k n,v=>v= .int k n
 | .sb b,v=>v= .bool b
 | .ss s,v=>v= .string (eJ s)/\∀x∈s,x<256
 | .sy b o n c k,v=>∃p C,φ b=some p/\v= .slice (some ⟨p.B,p.s+o,none⟩) n C/\(k=0->C=c)/\(k≠0->c<=C/\o+C*k=p.T)
 | .rw b o n k x,v=>(n=0/\Emp x v)∨∃p a C,φ b=some p/\v= .slice (some ⟨p.B,a,none⟩) n C/\(n≠0->a=p.s+o)/\p.s<=a/\n<=C/\a+n*k<=p.s+p.T/\(x<2->a+C*k<=p.s+p.T)/\(x=1->C=n)
 | .fr n k l,v=>(n=0/\l=[]/\∃a C,v= .slice a 0 C/\(a=none->C=0))∨∃q o C,φ.z q/\v= .slice (some ⟨q.B,q.s+o,none⟩) n C/\n<=C/\bq q.L o (n*k)=some l
 | .fa l o,v=>∃q x,φ.z q/\v= .pointer (some ⟨q.B,q.s+x+o,none⟩)/\bq q.L x l.length=some l
def VRs(φ:Ph):List AV->List Value->Prop
 | [],d=>d=[]
 |a::l,d=>∃v us,d=v::us/\VR φ a v/\VRs φ l us
end
mutual
theorem VR.c8{φ ψ:Ph}(g:SLe φ ψ):∀(a:AV) (v:Value),VR φ a v->VR ψ a v
 | .int k n,v,h=>by simp only[VR]at h⊢;exact h
 | .str s,v,h=>by simp only[VR]at h⊢;exact h
 | .bool b,v,h=>by simp only[VR]at h⊢;exact h
 | .nil,v,h=>by simp only[VR]at h⊢;exact h
 | .ptr b o,v,h=>by
  simp only[VR]at h⊢;obtain⟨p,d,e⟩:=h;exact⟨p,g _ _ d,e⟩
 | .nsl,v,h=>by simp only[VR]at h⊢;exact h
 | .sl b o n c k,v,h=>by
  simp only[VR]at h⊢;obtain⟨p,C,d,e⟩:=h;exact⟨p,C,g _ _ d,e⟩
 | .esl b,v,h=>by
  simp only[VR]at h⊢;obtain⟨p,x,C,d,e⟩:=h;exact⟨p,x,C,g _ _ d,e⟩
 | .agg l,v,h=>by
  simp only[VR]at h⊢;obtain⟨cs,d,e⟩:=h;exact⟨cs,d,VRs.c8 g l _ e⟩
 | .tup l,v,h=>by
  simp only[VR]at h⊢;obtain⟨cs,d,e⟩:=h;exact⟨cs,d,VRs.c8 g l _ e⟩
 | .fn f a c,v,h=>by
  simp only[VR]at h⊢;obtain⟨xs,cs,d,e,j⟩:=h;exact⟨xs,cs,d,VRs.c8 g a _ e,VRs.c8 g c _ j⟩
 | .map b,v,h=>by
  simp only[VR]at h⊢;obtain⟨p,d,e⟩:=h;exact⟨p,g _ _ d,e⟩
 | .any u,v,h=>by simp only[VR]at h⊢;exact h
 | .bad,v,h=>by simp only[VR]
 | .si k n,v,h=>by simp only[VR]at h⊢;exact h
 | .sb b,v,h=>by simp only[VR]at h⊢;exact h
 | .ss s,v,h=>by simp only[VR]at h⊢;exact h
 | .sy b o n c k,v,h=>by
  simp only[VR]at h⊢;obtain⟨p,C,d,e⟩:=h;exact⟨p,C,g _ _ d,e⟩
 | .rw b o n k x,v,h=>by
  simp only[VR]at h⊢;rcases h with h|⟨p,a,C,d,e⟩
  ·exact .inl h
  ·exact .inr ⟨p,a,C,g _ _ d,e⟩
 | .fr n k l,v,h=>by
  simp only[VR]at h⊢;rcases h with h|⟨q,o,C,d,e⟩
  ·exact .inl h
  ·exact .inr ⟨q,o,C,g.z _ d,e⟩
 | .fa l o,v,h=>by
  simp only[VR]at h⊢;obtain⟨q,x,d,e⟩:=h;exact⟨q,x,g.z _ d,e⟩
theorem VRs.c8{φ ψ:Ph}(g:SLe φ ψ):∀(l:List AV) (i:List Value),VRs φ l i->VRs ψ l i
 | [],i,h=>by simp only[VRs]at h⊢;exact h
 |a::l,i,h=>by
  simp only[VRs]at h⊢;obtain⟨v,us,d,e,j⟩:=h;exact⟨v,us,d,VR.c8 g a v e,VRs.c8 g l us j⟩
end
theorem VR.mono{φ ψ:Ph}(b:PLe φ ψ)(a:AV)(v:Value)(h:VR φ a v):VR ψ a v:=VR.c8 b.s a v h
theorem VRs.mono{φ ψ:Ph}(b:PLe φ ψ)(l:List AV)(a:List Value)(h:VRs φ l a):VRs ψ l a:=VRs.c8 b.s l a h
section
variable {φ:Ph}
theorem VRs.nil:VRs φ [] []:=by simp only[VRs]
theorem VRs.cons{a:AV}{v:Value}{l:List AV}{b:List Value}(h:VR φ a v)(k:VRs φ l b):VRs φ (a::l) (v::b):=by
 (try simp only[VRs]);exact⟨v,b,rfl,h,k⟩
theorem VRs.aU{a:List Value}(h:VRs φ [] a):a=[]:=by simpa only[VRs]using h
theorem VRs.cons_inv{a:AV}{l:List AV}{b:List Value}(h:VRs φ (a::l) b):∃v us,b=v::us/\VR φ a v/\VRs φ l us:=by simpa only[VRs]using h
theorem VRs.length:∀{l:List AV} {b:List Value},VRs φ l b->l.length=b.length
 | [],b,h=>by rw[h.aU];rfl
 |a::l,b,h=>by
  obtain⟨v,us,rfl,_,c⟩:=h.cons_inv;simp[c.length]
theorem VRs.append:∀{l m:List AV} {b us:List Value},VRs φ l b->VRs φ m us->VRs φ (l++m) (b++us)
 | [],m,b,us,h,k=>by rw[h.aU];exact k
 |a::l,m,b,us,h,k=>by
  obtain⟨v,ws,rfl,c,d⟩:=h.cons_inv;exact .cons c (d.append k)
theorem VRs.at:∀{l:List AV} {c:List Value},VRs φ l c->∀{i:Nat} {a:AV},l[i]?=some a->∃v,c[i]?=some v/\VR φ a v
 | [],c,h,i,a,e=>by simp at e
 |b::l,c,h,0,a,e=>by
  obtain⟨v,us,rfl,d,_⟩:=h.cons_inv;simp only[q1t,q1z]at e;subst e;exact⟨v,rfl,d⟩
 |b::l,c,h,i+1,a,e=>by
  obtain⟨v,us,rfl,_,g⟩:=h.cons_inv;simp only[q1g]at e;simpa using g.at e
theorem VRs.take:∀{l:List AV} {b:List Value},VRs φ l b->∀(n:Nat),VRs φ (l.take n) (b.take n)
 |_,_,_,0=>by simp[VRs]
 | [],b,h,n+1=>by rw[h.aU];simp[VRs]
 |a::l,b,h,n+1=>by
  obtain⟨v,us,rfl,c,d⟩:=h.cons_inv;simpa using VRs.cons c (d.take n)
theorem VRs.drop:∀{l:List AV} {b:List Value},VRs φ l b->∀(n:Nat),VRs φ (l.drop n) (b.drop n)
 |_,_,h,0=>by simpa using h
 | [],b,h,n+1=>by rw[h.aU];simp[VRs]
 |a::l,b,h,n+1=>by
  obtain⟨v,us,rfl,d,c⟩:=h.cons_inv;simpa using c.drop n
theorem VRs.map{a:Type}{f:a->AV}{g:a->Value}(h:∀x,VR φ (f x) (g x)):∀l:List a,VRs φ (l.map f) (l.map g)
 | []=> .nil
 |x::l=> .cons (h x) (VRs.map h l)
theorem VR.b9{k:IntKind}{n:Int}{v:Value}(h:VR φ (.int k n) v):v= .int k n:=by simpa only[VR]using h
theorem VR.bZ{b:Bool}{v:Value}(h:VR φ (.bool b) v):v= .bool b:=by simpa only[VR]using h
theorem VR.aU{v:Value}(h:VR φ .nil v):v= .pointer none:=by simpa only[VR]using h
theorem VR.c9{v:Value}(h:VR φ .nsl v):v= .slice none 0 0:=by simpa only[VR]using h
theorem VR.cJ{s:List Nat}{v:Value}(h:VR φ (.str s) v):v= .string (eJ s)/\∀x∈s,x<256:=by simpa only[VR]using h
theorem VR.cw{b o:Nat}{v:Value}(h:VR φ (.ptr b o) v):∃p,φ b=some p/\v= .pointer (some ⟨p.B,p.s+o,none⟩):=by simpa only[VR]using h
theorem VR.eT{b o n c k:Nat}{v:Value}(h:VR φ (.sl b o n c k) v):∃p C,φ b=some p/\v= .slice (some ⟨p.B,p.s+o,none⟩) n C/\(k=0->C=c)/\(k≠0->c<=C/\o+C*k=p.T):=by simpa only[VR]using h
theorem VR.kC{b:Nat}{v:Value}(h:VR φ (.esl b) v):∃p x C,φ b=some p/\v= .slice (some ⟨p.B,x,none⟩) 0 C/\p.s<=x/\x<=p.s+p.T:=by simpa only[VR]using h
theorem VR.dY{l:List AV}{v:Value}(h:VR φ (.agg l) v):∃cs,v= .agg cs/\VRs φ l cs.toList:=by simpa only[VR]using h
theorem VR.eM{l:List AV}{v:Value}(h:VR φ (.tup l) v):∃cs,v= .tuple cs/\VRs φ l cs.toList:=by simpa only[VR]using h
theorem VR.nu{f:Nat}{a c:List AV}{v:Value}(h:VR φ (.fn f a c) v):∃xs cs,v= .func (.func f) xs cs/\VRs φ a xs.toList/\VRs φ c cs.toList:=by simpa only[VR]using h
theorem VR.lR{b:Nat}{v:Value}(h:VR φ (.map b) v):∃p,φ b=some p/\v= .map (some p.B):=by simpa only[VR]using h
theorem VR.vn{u v:Value}(h:VR φ (.any u) v):v=u:=by simpa only[VR]using h
theorem VR.gi{k:IntKind}{n:Int}{v:Value}(h:VR φ (.si k n) v):v= .int k n:=by simpa only[VR]using h
theorem VR.jY{b:Bool}{v:Value}(h:VR φ (.sb b) v):v= .bool b:=by simpa only[VR]using h
theorem VR.tJ{s:List Nat}{v:Value}(h:VR φ (.ss s) v):v= .string (eJ s)/\∀x∈s,x<256:=by simpa only[VR]using h
theorem VR.AL{b o n c k:Nat}{v:Value}(h:VR φ (.sy b o n c k) v):∃p C,φ b=some p/\v= .slice (some ⟨p.B,p.s+o,none⟩) n C/\(k=0->C=c)/\(k≠0->c<=C/\o+C*k=p.T):=by simpa only[VR]using h
theorem VR.gX{b o n k x:Nat}{v:Value}(h:VR φ (.rw b o n k x) v):(n=0/\Emp x v)∨∃p a C,φ b=some p/\v= .slice (some ⟨p.B,a,none⟩) n C/\(n≠0->a=p.s+o)/\p.s<=a/\n<=C/\a+n*k<=p.s+p.T/\(x<2->a+C*k<=p.s+p.T)/\(x=1->C=n):=by simpa only[VR]using h
theorem VR.rwe{b o k x n:Nat}{v:Value}(hn:n=0)(h:Emp x v):VR φ (.rw b o n k x) v:=by subst hn;simp only[VR];exact .inl ⟨trivial,h⟩
theorem VR.rwn{b o k x:Nat}:VR φ (.rw b o 0 k x) (.slice none 0 0):= .rwe rfl (.inl rfl)
theorem VR.tK{n k:Nat}{l:List AV}{v:Value}(h:VR φ (.fr n k l) v):(n=0/\l=[]/\∃a C,v= .slice a 0 C/\(a=none->C=0))∨∃q o C,φ.z q/\v= .slice (some ⟨q.B,q.s+o,none⟩) n C/\n<=C/\bq q.L o (n*k)=some l:=by simpa only[VR]using h
theorem VR.AM{l:List AV}{o:Nat}{v:Value}(h:VR φ (.fa l o) v):∃q x,φ.z q/\v= .pointer (some ⟨q.B,q.s+x+o,none⟩)/\bq q.L x l.length=some l:=by simpa only[VR]using h
theorem VR.fre{k C:Nat}{a:Option Addr}(h:a=none->C=0):VR φ (.fr 0 k []) (.slice a 0 C):=by simp only[VR];exact .inl ⟨trivial,trivial,a,C,rfl,h⟩
theorem VR.fr{n k o C:Nat}{l:List AV}{q:Fz}(a:φ.z q)(hn:n<=C)(b:bq q.L o (n*k)=some l):VR φ (.fr n k l) (.slice (some ⟨q.B,q.s+o,none⟩) n C):=by simp only[VR];exact .inr ⟨q,o,C,a,rfl,hn,b⟩
theorem VR.fa{x o:Nat}{l:List AV}{q:Fz}(a:φ.z q)(b:bq q.L x l.length=some l):VR φ (.fa l o) (.pointer (some ⟨q.B,q.s+x+o,none⟩)):=by simp only[VR];exact⟨q,x,a,rfl,b⟩
theorem VR.LO{n k:Nat}{l:List AV}{v:Value}(h:VR φ (.fr n k l) v):∃a C,v= .slice a n C:=by
 rcases h.tK with⟨rfl,_,a,C,h,_⟩|⟨q,o,C,_,h,_⟩<;>exact⟨_,_,h⟩
def mF:AV->Bool
 | .int _ _=>true
 | .str _=>true
 | .bool _=>true
 | .si _ _=>true
 | .sb _=>true
 | .ss _=>true
 | .nil=>true
 | .nsl=>true
 | .any _=>true
 | .bad=>true
 | .fr _ _ _=>true
 | .fa _ _=>true
 |_=>false
theorem lT{ψ:Ph}(d:∀q,φ.z q->ψ.z q){a:AV}{v:Value}(h:mF a=true)(hv:VR φ a v):VR ψ a v:=by
 cases a<;>first|(cases h;done)|skip
 case fr=>
  simp only[VR]at hv⊢;rcases hv with h|⟨q,o,C,b,c⟩
  ·exact .inl h
  ·exact .inr ⟨q,o,C,d _ b,c⟩
 case fa=>
  simp only[VR]at hv⊢;obtain⟨q,o,b,c⟩:=hv;exact⟨q,o,d _ b,c⟩
 all_goals(simp only[VR]at hv⊢;try exact hv)
theorem Emp.nil{x:Nat}{v:Value}(h:Emp x v)(a:x≠4):v= .slice none 0 0:=h.elim id λh=>absurd h.1 a
theorem Emp.is{x:Nat}{v:Value}(h:Emp x v):∃a,v= .slice a 0 0:=h.elim (λh=>⟨_,h⟩) λ⟨_,a,h⟩=>⟨_,h⟩
theorem VR.rwx{b o n k a C x:Nat}{p:Pl}(h:φ b=some p)(c:n≠0->a=p.s+o)(d:p.s<=a)(e:n<=C)(g:a+n*k<=p.s+p.T)(i:x<2->a+C*k<=p.s+p.T)(j:x=1->C=n):VR φ (.rw b o n k x) (.slice (some ⟨p.B,a,none⟩) n C):=by simp only[VR];exact .inr ⟨p,a,C,h,rfl,c,d,e,g,i,j⟩
theorem VR.rw{b o n k a C:Nat}{p:Pl}(h:φ b=some p)(e:n≠0->a=p.s+o)(g:p.s<=a)(c:n<=C)(d:a+C*k<=p.s+p.T):VR φ (.rw b o n k 0) (.slice (some ⟨p.B,a,none⟩) n C):= .rwx h e g c (Y7 (Nat.add_le_add_left (q1h k c) a) d) (λ_=>d) (λq=>by cases q)
theorem VR.si(k:IntKind)(n:Int):VR φ (.si k n) (.int k n):=by simp only[VR]
theorem VR.sb(b:Bool):VR φ (.sb b) (.bool b):=by simp only[VR]
theorem VR.ss{s:List Nat}(h:∀x∈s,x<256):VR φ (.ss s) (.string (eJ s)):=by simp only[VR];exact⟨trivial,h⟩
theorem VR.sy{b o n c k C:Nat}{p:Pl}(h:φ b=some p)(a:k=0->C=c)(d:k≠0->c<=C/\o+C*k=p.T):VR φ (.sy b o n c k) (.slice (some ⟨p.B,p.s+o,none⟩) n C):=by simp only[VR];exact⟨p,C,h,rfl,a,d⟩
theorem VR.int(k:IntKind)(n:Int):VR φ (.int k n) (.int k n):=by simp only[VR]
theorem VR.bool(b:Bool):VR φ (.bool b) (.bool b):=by simp only[VR]
theorem VR.nil:VR φ .nil (.pointer none):=by simp only[VR]
theorem VR.nsl:VR φ .nsl (.slice none 0 0):=by simp only[VR]
theorem VR.str{s:List Nat}(h:∀x∈s,x<256):VR φ (.str s) (.string (eJ s)):=by simp only[VR];exact⟨trivial,h⟩
theorem VR.ptr{b o:Nat}{p:Pl}(h:φ b=some p):VR φ (.ptr b o) (.pointer (some ⟨p.B,p.s+o,none⟩)):=by simp only[VR];exact⟨p,h,rfl⟩
theorem VR.sl{b o n c k C:Nat}{p:Pl}(h:φ b=some p)(a:k=0->C=c)(d:k≠0->c<=C/\o+C*k=p.T):VR φ (.sl b o n c k) (.slice (some ⟨p.B,p.s+o,none⟩) n C):=by simp only[VR];exact⟨p,C,h,rfl,a,d⟩
theorem VR.esl{b x C:Nat}{p:Pl}(h:φ b=some p)(a:p.s<=x)(c:x<=p.s+p.T):VR φ (.esl b) (.slice (some ⟨p.B,x,none⟩) 0 C):=by simp only[VR];exact⟨p,x,C,h,rfl,a,c⟩
theorem VR.agg{l:List AV}{cs:Array Value}(h:VRs φ l cs.toList):VR φ (.agg l) (.agg cs):=by simp only[VR];exact⟨cs,rfl,h⟩
theorem VR.tup{l:List AV}{cs:Array Value}(h:VRs φ l cs.toList):VR φ (.tup l) (.tuple cs):=by simp only[VR];exact⟨cs,rfl,h⟩
theorem VR.fn{f:Nat}{a c:List AV}{xs cs:Array Value}(h:VRs φ a xs.toList)(k:VRs φ c cs.toList):VR φ (.fn f a c) (.func (.func f) xs cs):=by simp only[VR];exact⟨xs,cs,rfl,h,k⟩
theorem VR.map{b:Nat}{p:Pl}(h:φ b=some p):VR φ (.map b) (.map (some p.B)):=by simp only[VR];exact⟨p,h,rfl⟩
theorem VR.any(v:Value):VR φ (.any v) v:=by simp only[VR]
theorem VR.bad(v:Value):VR φ .bad v:=by simp only[VR]
theorem VR.undef:VR φ cg Go.undef:=VR.tup (cs:= #[]) VRs.nil
theorem za(s:ByteArray):eJ (s.data.toList.map UInt8.toNat)=s:=by
 obtain⟨⟨l⟩⟩:=s;simp[eJ,q4e,Function.comp_def]
theorem qR(v:Value):VR φ (CF v) v:=by
 unfold CF;split
 ·exact .int _ _
 ·rename_i s
  have:=VR.str (φ:=φ) (s:=s.data.toList.map UInt8.toNat) (by
   intro x a;simp only[q0e]at a;obtain⟨y,_,rfl⟩:=a;exact y.toNat_lt)
  rwa [za]at this
 ·exact .bool _
 ·exact .nil
 ·exact .nsl
 ·exact .any _
theorem pP(v:Value):VR φ (ofV v) v:=by
 unfold ofV;split
 ·rename_i cs;refine .agg ?_;have:=VRs.map (φ:=φ) (f:=CF) (g:=id) qR cs.toList;simpa using this
 ·rename_i cs;refine .tup ?_;have:=VRs.map (φ:=φ) (f:=CF) (g:=id) qR cs.toList;simpa using this
 ·exact qR _
theorem VR.cells{a:AV}{v:Value}(h:VR φ a v)(b:okC a=true):VRs φ a.cells v.cells.toList:=by
 cases a<;>simp only[AV.cells]
 case agg l=>obtain⟨cs,rfl,c⟩:=h.dY;exact c
 case bad=>cases b
 case any u=>have:=h.vn;subst this;simp only[okC]at b;cases v<;>first|exact .cons h .nil|cases b
 case si=>have:=h.gi;subst this;exact .cons h .nil
 case sb=>have:=h.jY;subst this;exact .cons h .nil
 case ss=>obtain⟨rfl,_⟩:=h.tJ;exact .cons h .nil
 case sy=>obtain⟨p,C,_,rfl,_⟩:=h.AL;exact .cons h .nil
 case rw=>
  rcases h.gX with⟨_,d⟩|⟨p,y,C,_,rfl,_⟩
  ·obtain⟨a,rfl⟩:=d.is;exact .cons h .nil
  ·exact .cons h .nil
 case fr=>obtain⟨a,C,rfl⟩:=h.LO;exact .cons h .nil
 case fa=>obtain⟨q,o,_,rfl,_⟩:=h.AM;exact .cons h .nil
 case int=>have:=h.b9;subst this;exact .cons h .nil
 case str=>obtain⟨rfl,_⟩:=h.cJ;exact .cons h .nil
 case bool=>have:=h.bZ;subst this;exact .cons h .nil
 case nil=>have:=h.aU;subst this;exact .cons h .nil
 case ptr=>obtain⟨p,_,rfl⟩:=h.cw;exact .cons h .nil
 case nsl=>have:=h.c9;subst this;exact .cons h .nil
 case sl=>obtain⟨p,C,_,rfl,_⟩:=h.eT;exact .cons h .nil
 case esl=>obtain⟨p,x,C,_,rfl,_⟩:=h.kC;exact .cons h .nil
 case tup=>obtain⟨p,rfl,_⟩:=h.eM;exact .cons h .nil
 case fn=>obtain⟨p,q,rfl,_⟩:=h.nu;exact .cons h .nil
 case map=>obtain⟨p,_,rfl⟩:=h.lR;exact .cons h .nil
end
theorem eX{a:Type}:∀(l:List a) (i:Nat),nth l i=l[i]?
 | [],_=>by simp[nth]
 |_::_,0=>by simp[nth]
 |_::l,i+1=>by simp[nth,eX l i]
theorem br{a:Type}{l r:List a}{o n:Nat}(h:bq l o n=some r):o+n<=l.length/\r=(l.drop o).take n:=by
 unfold bq at h;split at h
 ·rename_i e;injection h with h;exact⟨Z0 e,h.symm⟩
 ·cases h
theorem iD:∀(l:List AV) (o:Nat) (xs r:List AV),fA l o xs=some r->r.length=l.length/\o+xs.length<=l.length/\∀i:Nat,r[i]?=if o<=i/\i<o+xs.length then xs[i-o]? else l[i]?
 |l,0,[],r,h=>by
  have:r=l:=by cases l<;>(unfold fA at h;injection h with h;exact h.symm)
  subst this;refine⟨rfl,by simp,λi=>?_⟩;rw[if_neg (by simp only[q1j];omega)]
 | [],0,x::xs,r,h=>by unfold fA at h;cases h
 | [],o+1,xs,r,h=>by cases xs<;>(unfold fA at h;cases h)
 |y::l,0,x::xs,r,h=>by
  simp only[fA,Z8]at h;obtain⟨t,a,rfl⟩:=h;obtain⟨b,e,c⟩:=iD l 0 xs t a;refine⟨by simp[b],by simp only[Z9];omega,λi=>?_⟩;cases i with
  |zero=>simp
  |succ i=>
   simp only[q1g,c,Z9];by_cases d:i<xs.length
   ·rw[if_pos (by omega),if_pos (by omega)];simp
   ·rw[if_neg (by omega),if_neg (by omega)]
 |y::l,o+1,xs,r,h=>by
  have h:(fA l o xs).map (y::·)=some r:=by cases xs<;>(unfold fA at h;exact h)
  simp only[Z8]at h;obtain⟨t,a,rfl⟩:=h;obtain⟨b,e,c⟩:=iD l o xs t a;refine⟨by simp[b],by simp only[Z9];omega,λi=>?_⟩;cases i with
  |zero=>simp
  |succ i=>
   simp only[q1g,c];by_cases d:o<=i/\i<o+xs.length
   ·rw[if_pos d,if_pos (by omega)];congr 1;omega
   ·rw[if_neg d,if_neg (by omega)]
theorem ft:∀(a:List Value) (c:Array Value) (o:Nat),(eu c o a).size=c.size
 | [],_,_=>rfl
 |v::a,c,o=>by simp[eu,ft a]
theorem nw:∀(a:List Value) (c:Array Value) (o i:Nat),(eu c o a)[i]?=if o<=i/\i<o+a.length/\i<c.size then a[i-o]? else c[i]?
 | [],c,o,i=>by rw[if_neg (by simp;omega)];rfl
 |v::a,c,o,i=>by
  simp only[eu,nw a,Array.size_setIfInBounds,Z9];by_cases h:i=o
  ·subst h;rw[if_neg (by omega)];by_cases hi:i<c.size
   ·rw[if_pos (by omega)];simp[hi]
   ·rw[if_neg (by omega)];simp[hi]
  ·by_cases b:o+1<=i/\i<o+1+a.length/\i<c.size
   ·rw[if_pos b,if_pos (by omega)];obtain⟨d,rfl⟩:∃d,i=o+1+d:=⟨i-(o+1),by omega⟩;rw[show o+1+d-(o+1)=d from by omega,show o+1+d-o=d+1 from by omega];simp
   ·rw[if_neg b,if_neg (by omega)];simp[Array.getElem?_setIfInBounds,Ne.symm h]
def CR(φ:Ph)(c:Array Value)(s:Nat)(l:List AV):Prop:=∀i a,l[i]?=some a->∃v,c[s+i]?=some v/\VR φ a v
theorem CR.c8{φ ψ:Ph}(b:SLe φ ψ){c:Array Value}{s:Nat}{l:List AV}(h:CR φ c s l):CR ψ c s l:=λi a e=>
 let⟨v,d,f⟩:=h i a e
 ⟨v,d,VR.c8 b _ _ f⟩
theorem CR.mono{φ ψ:Ph}(a:PLe φ ψ){c:Array Value}{s:Nat}{l:List AV}(h:CR φ c s l):CR ψ c s l:=h.c8 a.s
theorem CR.cO{φ:Ph}{c:Array Value}{s:Nat}{l:List AV}(h:CR φ c s l):∀(n o:Nat),o+n<=l.length->∃a,cO c (s+o) n=some a/\VRs φ ((l.drop o).take n) a
 |0,o,_=>⟨[],rfl,by simpa using VRs.nil⟩
 |n+1,o,b=>by
  obtain⟨v,d,e⟩:=h o (l[o]'(by omega)) (Y0 (by omega));obtain⟨a,f,g⟩:=CR.cO h n (o+1) (by omega);refine⟨v::a,?_,?_⟩
  ·simp only[Go.Proofs.YtflehenfikoniaaGreat.cO,d];rw[show s+o+1=s+(o+1) from by omega,f]
  ·rw[q0j (by omega),List.take_succ_cons];exact .cons e g
theorem CR.sub{φ:Ph}{c:Array Value}{s:Nat}{l r:List AV}{o n:Nat}(h:CR φ c s l)(e:bq l o n=some r):∃a,Go.Proofs.YtflehenfikoniaaGreat.cO c (s+o) n=some a/\VRs φ r a:=by
 obtain⟨b,rfl⟩:=br e;exact h.cO n o b
theorem CR.nth{φ:Ph}{c:Array Value}{s:Nat}{l:List AV}{o:Nat}{a:AV}(h:CR φ c s l)(e:Go.Proofs.YtflehenfikoniaaGreat.nth l o=some a):∃v,c[s+o]?=some v/\VR φ a v:=h o a (by rw[<-eX];exact e)
theorem CR.set{φ:Ph}{c:Array Value}{s o:Nat}{l r xs:List AV}{d:List Value}(h:CR φ c s l)(e:fA l o xs=some r)(hv:VRs φ xs d)(k:s+l.length<=c.size):CR φ (eu c (s+o) d) s r:=by
 obtain⟨m,p,f⟩:=iD l o xs r e;intro i a b
 have g:i<l.length:=by
  have:=(Y6.1 b).1;omega
 rw[f]at b;rw[nw,<-hv.length];split at b
 ·rename_i j;rw[if_pos (by omega),show s+i-(s+o)=i-o from by omega];exact hv.at b
 ·rename_i j;rw[if_neg (by omega)];exact h i a b
theorem CR.of{φ:Ph}{l:List AV}{b:List Value}(h:VRs φ l b)(r:List Value):CR φ (b++r).toArray 0 l:=λi a e=>by
 obtain⟨v,c,d⟩:=h.at e;refine⟨v,?_,d⟩;have:=(Y6.1 c).1;simp[q1f this,c]
theorem CR.of'{φ:Ph}{l:List AV}{c:Array Value}(h:VRs φ l c.toList):CR φ c 0 l:=λi a e=>by
 obtain⟨v,b,d⟩:=h.at e;exact⟨v,by simpa using b,d⟩
def MR(φ:Ph):List (AV×AV)->List MapEntry->Prop
 | [],ms=>ms=[]
 |e::es,ms=>∃m us,ms=m::us/\VR φ e.1 m.key/\VR φ e.2 m.val/\MR φ es us
theorem MR.c8{φ ψ:Ph}(a:SLe φ ψ):∀(es:List (AV×AV)) (ms:List MapEntry),MR φ es ms->MR ψ es ms
 | [],ms,h=>h
 |e::es,ms,⟨m,us,b,c,d,f⟩=>⟨m,us,b,VR.c8 a _ _ c,VR.c8 a _ _ d,MR.c8 a es us f⟩
theorem MR.length{φ:Ph}:∀{es:List (AV×AV)} {ms:List MapEntry},MR φ es ms->es.length=ms.length
 | [],ms,h=>by rw[show ms=[] from h];rfl
 |e::es,ms,⟨m,us,a,_,_,b⟩=>by subst a;simp[MR.length b]
def wv(ms:List MapEntry)(cl:Nat):Prop:=cl=ms.length/\∀(i:Nat) (e:MapEntry),ms[i]?=some e->e.born=i
theorem wv.nil:wv [] 0:=⟨rfl,λi e h=>by simp at h⟩
theorem wv.push{ms:List MapEntry}{cl:Nat}(h:wv ms cl){m:MapEntry}(c:m.born=cl):wv (ms++ [m]) (cl+1):=by
 refine⟨by simp[h.1],λi e a=>?_⟩;rcases Nat.lt_trichotomy i ms.length with b|rfl|b
 ·rw[q1f b]at a;exact h.2 i e a
 ·rw[q0x (Z6 _)]at a;simp at a;subst a;exact c.trans h.1
 ·rw[q2g (by simp;omega)]at a;cases a
def OR(φ:Ph)(p:Pl):AO->Obj->Prop
 | .cells l z,ob=>∃c t fz,ob= .cells c t fz/\l.length<=p.T/\p.s+p.T<=c.size/\rI fz p.s p.T/\(z=true->fz=(0,0))/\CR φ c p.s l
 | .map es,ob=>∃ms cl,ob= .map ms cl/\MR φ es ms.toList/\wv ms.toList cl
 | .mp es bs cl,ob=>∃ms:Array MapEntry,ob= .map ms cl/\MR φ es ms.toList/\(ms.toList.map λx=>x.born)=bs
 | .iter b m seen,ob=>p.s=0/\∃q,φ b=some q/\ob= .mapIter (some q.B) m seen.toArray m
 | .ro l,ob=>∃c t fz,ob= .cells c t fz/\l.length<=p.T/\p.s+p.T<=c.size/\CR φ c p.s l
 | .sep _,_=>False
def AO.Jw:AO->Option HP
 | .sep Q=>some Q
 |_=>none
def AO.own:AO->Bool
 | .ro _=>false
 |_=>true
theorem OR.c8{φ ψ:Ph}(f:SLe φ ψ){p:Pl}{o:AO}{ob:Obj}(h:OR φ p o ob):OR ψ p o ob:=by
 cases o with
 |cells l z=>obtain⟨c,t,fz,a,d,e,g,i,j⟩:=h;exact⟨c,t,fz,a,d,e,g,i,j.c8 f⟩
 |map es=>obtain⟨ms,cl,a,d,e⟩:=h;exact⟨ms,cl,a,MR.c8 f _ _ d,e⟩
 |mp es bs cl=>obtain⟨ms,a,d,e⟩:=h;exact⟨ms,a,MR.c8 f _ _ d,e⟩
 |iter b m seen=>obtain⟨h0,q,a,d⟩:=h;exact⟨h0,q,f _ _ a,d⟩
 |ro l=>obtain⟨c,t,fz,a,d,e,g⟩:=h;exact⟨c,t,fz,a,d,e,g.c8 f⟩
 |sep Q=>exact h.elim
theorem OR.mono{φ ψ:Ph}(a:PLe φ ψ){p:Pl}{o:AO}{ob:Obj}(h:OR φ p o ob):OR ψ p o ob:=h.c8 a.s
def AO.under:AO->Obj->Option Obj
 | .ro _,ob=>some ob
 |_,_=>none
theorem AO.bH{o:AO}(h:o.own=true)(ob:Obj):o.under ob=none:=by cases o<;>first|rfl|cases h
def AO.void:AO->Bool
 | .cells [] _=>true
 | .ro []=>true
 |_=>false
def AO.free:AO->Bool
 | .sep _=>true
 |o=>o.void
theorem AO.G6{o:AO}(h:o.void=true):o.free=true:=by cases o<;>first|exact h|rfl
def FzR(φ:Ph)(h:Hp)(q:Fz):Prop:=(q.B<h.n/\q.L.all mF=true)/\∃c t fz,h.f q.B=some (.cells c t fz)/\q.s+q.L.length<=c.size/\CR φ c q.s q.L
theorem FzR.mono{φ ψ:Ph}(d:∀q,φ.z q->ψ.z q){h:Hp}{q:Fz}(k:FzR φ h q):FzR ψ h q:=by
 obtain⟨h0,c,t,fz,e,f,g⟩:=k;refine⟨h0,c,t,fz,e,f,λi a b=>?_⟩;obtain⟨v,j,l⟩:=g i a b;exact⟨v,j,lT d (q0a.1 h0.2 a (q0l b)) l⟩
theorem FzR.grow{φ:Ph}{h g:Hp}{q:Fz}(k:FzR φ h q)(hn:h.n<=g.n)(a:g.f q.B=h.f q.B):FzR φ g q:=by
 obtain⟨h0,c,t,fz,b,d⟩:=k;exact⟨⟨q0y h0.1 hn,h0.2⟩,c,t,fz,a.trans b,d⟩
structure HR(φ:Ph)(H:AH)(n:Nat)(h0 h:Hp):Prop where
 dom:∀b p,φ b=some p->b<n/\p.B<h.n
 live:∀b o,H.get b=some o->(φ b=none/\o.free=true)∨∃p ob,φ b=some p/\h0.f p.B=o.under ob/\h.f p.B=some ob/\OR φ p o ob
 inj:∀b b' o o' p p',H.get b=some o->H.get b'=some o'->o.own=true->o'.own=true->φ b=some p->φ b'=some p'->p.B=p'.B->b=b'
 base:∀b o,h0.f b=some o->b<h.n/\h.f b=some o
 size:h0.n<=h.n
 frz:∀q,φ.z q->(FzR φ h q/\(φ.y q∨h0.f q.B=none))/\∀b' o' p',H.get b'=some o'->o'.own=true->φ b'=some p'->p'.B≠q.B
 sep:∀b Q,H.get b=some (.sep Q)->Q.P φ.z (φ.s b) h/\∀B,φ.s b B->(B<h.n/\h0.f B=none)/\(∀b' o' p',H.get b'=some o'->o'.own=true->φ b'=some p'->p'.B≠B)/\(∀q,φ.z q->q.B≠B)/\∀b' Q',H.get b'=some (.sep Q')->b'≠b->¬φ.s b' B
theorem HR.dQ {φ ψ:Ph} {H H':AH} {n:Nat} {h0 h g:Hp} (y:HR φ H n h0 h) (hn:h.n<=g.n) (u:∀b Q,H'.get b=some (.sep Q)->H.get b=some (.sep Q)/\ψ.s b=φ.s b) (A:∀q,φ.z q->ψ.z q) (l:∀q,ψ.z q->φ.z q∨∀b Q,H.get b=some (.sep Q)->¬φ.s b q.B)
 (C:∀b Q B,H.get b=some (.sep Q)->φ.s b B->g.f B=h.f B) (ho:∀a o' d,H'.get a=some o'->o'.own=true->ψ a=some d->(∃b o p,H.get b=some o/\o.own=true/\φ b=some p/\p.B=d.B)∨h.f d.B=none∨∀b Q,H.get b=some (.sep Q)->¬φ.s b d.B):
 ∀b Q,H'.get b=some (.sep Q)->Q.P ψ.z (ψ.s b) g/\∀B,ψ.s b B->(B<g.n/\h0.f B=none)/\(∀a o' d,H'.get a=some o'->o'.own=true->ψ a=some d->d.B≠B)/\(∀q,ψ.z q->q.B≠B)/\∀a Q',H'.get a=some (.sep Q')->a≠b->¬ψ.s a B:=λb Q D=>by
 obtain⟨j,E⟩:=u b Q D;obtain⟨v,F⟩:=y.sep b Q j;rw[E];refine⟨Q.mono _ _ _ _ A (Q.loc _ _ _ _ hn (λB i=>C b Q B j i) v),λB i=>?_⟩;obtain⟨w,G,I,J⟩:=F B i;refine⟨⟨q0y w.1 hn,w.2⟩,λa o' d m r k t=>?_,λq L e=>?_,λa Q' m r k=>?_⟩
 ·rcases ho a o' d m r k with⟨c,o,p,M,N,O,R⟩|g|g
  ·exact G c o p M N O (R.trans t)
  ·obtain⟨x,S⟩:=Q.ex _ _ _ B v i;rw[t,S]at g;cases g
  ·exact g b Q j (t▸i)
 ·rcases l q L with g|g
  ·exact I q g e
  ·exact g b Q j (e▸i)
 ·obtain⟨T,U⟩:=u a Q' m;rw[U]at k;exact J a Q' T r k
theorem HR.of{φ:Ph}{H:AH}{n:Nat}{h0 h:Hp}(d:HR φ H n h0 h){b:Nat}{o:AO}{p:Pl}(e:H.get b=some o)(c:φ b=some p):∃ob,h0.f p.B=o.under ob/\h.f p.B=some ob/\OR φ p o ob:=by
 rcases d.live b o e with⟨a,_⟩|⟨q,ob,a,g,i,j⟩
 ·rw[c]at a;cases a
 rw[c]at a;injection a with a;subst a;exact⟨ob,g,i,j⟩
theorem HR.put{φ:Ph}{H:AH}{n:Nat}{h0 h:Hp}(f:HR φ H n h0 h){b:Nat}{o o':AO}{p:Pl}{i:Obj}(j:H.get b=some o)(t:φ b=some p)(ho:OR φ p o' i)(d:Nat)(k:o.own=true:=by rfl)(D:o'.own=true:=by rfl):HR φ (H.set (some o') d b) n h0 (h.put p.B i):=by
 obtain⟨ob,s,_,_⟩:=f.of j t;rw[AO.bH k]at s
 have l:∀x Q,(H.set (some o') d b).get x=some (.sep Q)->H.get x=some (.sep Q):=λx Q c=>by
  rcases PM.ak d H b x _ c with⟨_,a⟩|⟨_,a⟩
  ·injection a with a;subst a;exact ho.elim
  ·exact a
 refine⟨f.dom,λx q c=>?_,λx y q Y px v c E F m G g e=>?_,λx q c=>?_,f.size,λq w=>?_,f.dQ (Z6 _) (λx Q c=>⟨l x Q c,rfl⟩) (λ_ h=>h) (λ_ h=> .inl h) (λx Q B c s=>aY _ _ _ _ λe=>((f.sep x Q c).2 B s).2.1 b o p j k t e.symm) λS T U Z e2 V=>?_⟩;rotate_left 4
 ·rcases PM.ak d H b S T Z with⟨rfl,_⟩|⟨_,a⟩
  ·exact .inl ⟨_,o,U,j,k,V,rfl⟩
  ·exact .inl ⟨S,T,U,a,e2,V,rfl⟩
 ·rcases PM.ak d H b x q c with⟨rfl,a⟩|⟨u,a⟩
  ·injection a with a;subst a;exact .inr ⟨p,i,t,by rw[AO.bH D];exact s,bX _ _ _,ho⟩
  ·rcases f.live x q a with hv|⟨px,I,A,J,h5,h6⟩
   ·exact .inl hv
   refine .inr ⟨px,I,A,J,?_,h6⟩
   rw[aY _ _ _ _ (λe=>by
    cases w:q.own with
    |true=>exact u (f.inj x b q o px p a j w k A t e)
    |false=>
     rw[e,s]at J;cases q<;>first|(cases w;done)|(simp[AO.under]at J;done))]
   exact h5
 ·have W:∀z r,(H.set (some o') d b).get z=some r->r.own=true->∃C,H.get z=some C/\C.own=true:=λz r hz L=>by
   rcases PM.ak d H b z r hz with⟨rfl,_⟩|⟨_,a⟩
   ·exact⟨o,j,k⟩
   ·exact⟨r,a,L⟩
  obtain⟨r,M,N⟩:=W x q c F;obtain⟨C,O,R⟩:=W y Y E m;exact f.inj x y r C px v M O N R G g e
 ·obtain⟨u,a⟩:=f.base x q c;exact⟨u,by rw[aY _ _ _ _ (λe=>by subst e;rw[s]at c;cases c)];exact a⟩
 ·obtain⟨⟨u,h9⟩,a⟩:=f.frz q w;refine⟨⟨u.grow (Z6 _) (aY _ _ _ _ λe=>a b o p j k t e.symm),h9⟩,λy X v E m g=>?_⟩;rcases PM.ak d H b y X E with⟨rfl,_⟩|⟨_,A⟩
  ·exact a y o v j k g
  ·exact a y X v A m g
def fm(φ:Ph)(n:Nat)(p:Pl):Ph:=⟨λx=>if x=n then some p else φ x,φ.z,φ.y,φ.s⟩
theorem HR.ple{φ:Ph}{H:AH}{n:Nat}{h0 h:Hp}(a:HR φ H n h0 h)(p:Pl):PLe φ (fm φ n p):=⟨λb q e=>by
 show(if b=n then some p else φ b)=some q;rw[if_neg (by have:=(a.dom b q e).1;omega)];exact e,λ_ h=>h,λ_ h=>h⟩
theorem bG(φ:Ph)(n:Nat)(p:Pl):fm φ n p n=some p:=by simp[fm]
theorem HR.new{φ:Ph}{H:AH}{n:Nat}{h0 h:Hp}(i:HR φ H n h0 h){s T:Nat}{o:AO}{ob:Obj}(ho:OR (fm φ n ⟨h.n,s,T⟩) ⟨h.n,s,T⟩ o ob)(d:Nat)(Y:o.own=true:=by rfl):HR (fm φ n ⟨h.n,s,T⟩) (H.set (some o) d n) (n+1) h0 ((h.put h.n ob).to (h.n+1)):=by
 have old:∀x q,H.get x=some q->(φ x=none/\q.free=true)∨∃p l,φ x=some p/\x<n/\p.B<h.n/\h0.f p.B=q.under l/\h.f p.B=some l/\OR φ p q l:=λx q a=>by
  rcases i.live x q a with E|⟨px,m,t,C,O,F⟩
  ·exact .inl E
  exact .inr ⟨px,m,t,(i.dom x px t).1,(i.dom x px t).2,C,O,F⟩
 have G:h0.f h.n=none:=by
  cases a:h0.f h.n with
  |none=>rfl
  |some o=>exact absurd (i.base _ _ a).1 (q3g _)
 have u:∀x Q,(H.set (some o) d n).get x=some (.sep Q)->x≠n/\H.get x=some (.sep Q):=λx Q a=>by
  rcases PM.ak d H n x _ a with⟨_,b⟩|b
  ·injection b with b;subst b;exact ho.elim
  ·exact b
 refine⟨λx q a=>?_,λx q a=>?_,λx y q R px D a I J v L c e=>?_,λx q a=>?_,?_,λq Z=>?_,i.dQ (q2n _) (λx Q a=>⟨(u x Q a).2,rfl⟩) (λ_ h=>h) (λ_ h=> .inl h) (λx Q B a M=>?_) λS U p' e1 e2 w=>?_⟩;rotate_left 6
 ·have:B<h.n:=((i.sep x Q a).2 B M).1.1;rw[Ja,aY _ _ _ _ (by omega)]
 ·rcases PM.ak d H n S U e1 with⟨rfl,_⟩|⟨k,b⟩
  ·rw[bG]at w;injection w with w;subst w;exact .inr (.inr λx Q a M=>by have:h.n<h.n:=((i.sep x Q a).2 _ M).1.1;omega)
  ·simp only[fm,if_neg k]at w;exact .inl ⟨S,U,p',b,e2,w,rfl⟩
 ·simp only[fm]at a;split at a
  ·injection a with a;subst a;simp only[I9];omega
  ·have:=i.dom x q a;simp only[I9];omega
 ·rcases PM.ak d H n x q a with⟨rfl,b⟩|⟨k,b⟩
  ·injection b with b;subst b;exact .inr ⟨_,ob,bG _ _ _,by rw[AO.bH Y];exact G,by rw[Ja];exact bX _ _ _,ho⟩
  ·rcases old x q b with⟨E,N⟩|⟨px,m,t,C,O,F,h7,h8⟩
   ·exact .inl ⟨by simp only[fm,if_neg k];exact E,N⟩
   refine .inr ⟨px,m,i.ple _ _ _ t,F,?_,h8.mono (i.ple _)⟩;rw[Ja,aY _ _ _ _ (by omega)];exact h7
 ·have cs:∀z r A,(H.set (some o) d n).get z=some r->fm φ n ⟨h.n,s,T⟩ z=some A->(z=n/\A.B=h.n)∨(z≠n/\H.get z=some r/\φ z=some A/\A.B<h.n):=λz r A hz j=>by
   rcases PM.ak d H n z r hz with⟨rfl,_⟩|⟨k,b⟩
   ·rw[bG]at j;injection j with j;subst j;exact .inl ⟨rfl,rfl⟩
   ·simp only[fm,if_neg k]at j;exact .inr ⟨k,b,j,(i.dom _ _ j).2⟩
  rcases cs x q px a L with⟨a1,V⟩|⟨a1,V,a3,a4⟩<;>rcases cs y R D I c with⟨b1,W⟩|⟨b1,W,b3,b4⟩
  ·omega
  ·omega
  ·omega
  ·exact i.inj x y q R px D V W J v a3 b3 e
 ·obtain⟨k,b⟩:=i.base x q a;exact⟨by simp only[I9];omega,by rw[Ja,aY _ _ _ _ (by omega)];exact b⟩
 ·have:=i.size
  (try simp only[I9]);omega
 ·obtain⟨⟨k,h9⟩,b⟩:=i.frz q Z;have hlt:=k.1.1;refine⟨⟨FzR.mono (i.ple _).z (k.grow (g:=(h.put h.n ob).to (h.n+1)) (by simp only[I9];omega) (by rw[Ja,aY _ _ _ _ (by omega)])),h9⟩,λy X D I v c=>?_⟩;rcases PM.ak d H n y X I with⟨rfl,_⟩|⟨t,C⟩
  ·rw[bG]at c;injection c with c;subst c;exact λe=>by simp only at e;omega
  ·simp only[fm,if_neg t]at c;exact b y X D C v c
theorem HR.kill{φ:Ph}{H:AH}{n:Nat}{h0 h:Hp}(a:HR φ H n h0 h)(d b:Nat):HR φ (H.set none d b) n h0 h:=by
 have old:∀x q,(H.set none d b).get x=some q->H.get x=some q:=λx q c=>by
  rcases PM.ak d H b x q c with⟨_,e⟩|⟨_,e⟩
  ·cases e
  ·exact e
 exact⟨a.dom,λx q c=>a.live x q (old x q c),λx y q i px f c g=>a.inj x y q i px f (old x q c) (old y i g),a.base,a.size,λq j=>⟨(a.frz q j).1,λy k f g=>(a.frz q j).2 y k f (old y k g)⟩,a.dQ (Z6 _) (λx Q c=>⟨old x _ c,rfl⟩) (λ_ h=>h) (λ_ h=> .inl h) (λ_ _ _ _ _=>rfl) λl m o p r s=> .inl ⟨l,m,o,old l m p,r,s,rfl⟩⟩
theorem HR.rename{φ:Ph}{H:AH}{n:Nat}{h0 h:Hp}(i:HR φ H n h0 h){b:Nat}{o o':AO}{p q:Pl}{l:Obj}(t:H.get b=some o)(m:φ b=some p)(u:q.B=p.B)(ho:OR (fm φ n q) q o' l)(d G:Nat)(v:o.own=true:=by rfl)(J:o'.own=true:=by rfl):
 HR (fm φ n q) ((H.set none G b).set (some o') d n) (n+1) h0 (h.put p.B l):=by
 obtain⟨ob,w,_,_⟩:=i.of t m;rw[AO.bH v]at w;have hpB:=(i.dom b p m).2
 have old:∀x r,(H.set none G b).get x=some r->x≠b/\H.get x=some r:=λx r c=>by
  rcases PM.ak G H b x r c with⟨_,a⟩|⟨k,a⟩
  ·cases a
  ·exact⟨k,a⟩
 refine⟨λx r c=>?_,λx r c=>?_,λx y r L px D c M E s N f e=>?_,λx r c=>?_,i.size,λz O=>?_,i.dQ (Z6 _) (λx Q c=>?_) (λ_ h=>h) (λ_ h=> .inl h) (λx Q B c w=>aY _ _ _ _ λe=>((i.sep x Q c).2 B w).2.1 b o p t v m e.symm) λR S p' e1 e2 A=>?_⟩;rotate_left 5
 ·rcases PM.ak d _ n x _ c with⟨_,a⟩|⟨_,a⟩
  ·injection a with a;subst a;exact ho.elim
  ·exact⟨(old x _ a).2,rfl⟩
 ·rcases PM.ak d _ n R S e1 with⟨rfl,_⟩|⟨k,a⟩
  ·rw[bG]at A;injection A with A;subst A;exact .inl ⟨b,o,p,t,v,m,u.symm⟩
  ·simp only[fm,if_neg k]at A;exact .inl ⟨R,S,p',(old R S a).2,e2,A,rfl⟩
 ·simp only[fm]at c;split at c
  ·injection c with c;subst c;simp only[Lp];omega
  ·have:=i.dom x r c;simp only[Lp];omega
 ·rcases PM.ak d _ n x r c with⟨rfl,a⟩|⟨k,a⟩
  ·injection a with a;subst a;exact .inr ⟨_,l,bG _ _ _,by rw[u,AO.bH J];exact w,by rw[u];exact bX _ _ _,ho⟩
  ·obtain⟨F,C⟩:=old x r a;rcases i.live x r C with⟨hv,T⟩|⟨px,U,X,V,h7,h8⟩
   ·exact .inl ⟨by simp only[fm,if_neg k];exact hv,T⟩
   refine .inr ⟨px,U,i.ple _ _ _ X,V,?_,h8.mono (i.ple _)⟩
   rw[aY _ _ _ _ (λe=>by
    cases u:r.own with
    |true=>exact F (i.inj x b r o px p C t u v X m e)
    |false=>
     rw[e,w]at V;cases r<;>first|(cases u;done)|(simp[AO.under]at V;done))]
   exact h7
 ·have cs:∀z r I,((H.set none G b).set (some o') d n).get z=some r->fm φ n q z=some I->(z=n/\I.B=p.B)∨(z≠n/\z≠b/\H.get z=some r/\φ z=some I):=λz r I hz j=>by
   rcases PM.ak d _ n z r hz with⟨rfl,_⟩|⟨k,a⟩
   ·rw[bG]at j;injection j with j;subst j;exact .inl ⟨rfl,u⟩
   ·simp only[fm,if_neg k]at j;obtain⟨F,C⟩:=old z r a;exact .inr ⟨k,F,C,j⟩
  rcases cs x r px c N with⟨a1,Y⟩|⟨a1,Y,Z,a4⟩<;>rcases cs y L D M f with⟨b1,b2⟩|⟨b1,b2,b3,b4⟩
  ·omega
  ·exact(b2 (i.inj y b L o D p b3 t s v b4 m (by omega))).elim
  ·exact(Y (i.inj x b r o px p Z t E v a4 m (by omega))).elim
  ·exact i.inj x y r L px D Z b3 E s a4 b4 e
 ·obtain⟨k,a⟩:=i.base x r c;exact⟨k,by rw[aY _ _ _ _ (λe=>by subst e;rw[w]at c;cases c)];exact a⟩
 ·obtain⟨⟨k,h9⟩,a⟩:=i.frz z O;refine⟨⟨FzR.mono (i.ple _).z (k.grow (g:=h.put p.B l) (Z6 _) (aY _ _ _ _ λe=>a b o p t v m e.symm)),h9⟩,λy W D M s f=>?_⟩;rcases PM.ak d _ n y W M with⟨rfl,_⟩|⟨F,C⟩
  ·rw[bG]at f;injection f with f;subst f;rw[u];exact a b o p t v m
  ·simp only[fm,if_neg F]at f;exact a y W D (old y W C).2 s f
def FR(φ:Ph)(σ:AE)(b:Env):Prop:=∀t a,σ.get t=some a->VR φ a (b t)
theorem FR.mono{φ ψ:Ph}(c:PLe φ ψ){σ:AE}{b:Env}(h:FR φ σ b):FR ψ σ b:=λt a e=>VR.mono c _ _ (h t a e)
theorem FR.ev{φ:Ph}{σ:AE}{a:Env}(h:FR φ σ a)(x:Operand):VR φ (eev σ x) (a.ev x):=by
 cases x with
 |tmp t=>
  simp only[eev,Env.ev];rcases mE eR t σ _ rfl with e|e
  ·show VR φ (bj (pathOf eR t) σ) (a t);rw[e];exact .bad _
  ·exact h t _ e
 |const v=>exact pP v
 |global g=>exact .any _
 |func f=>exact .fn (xs:= #[]) (cs:= #[]) .nil .nil
theorem FR.at{φ:Ph}{σ:AE}{a:Env}(h:FR φ σ a)(t:Nat):VR φ (bj (pa t) σ) (a t):=FR.ev h (.tmp t)
theorem FR.put{φ:Ph}{σ:AE}{c:Env}(h:FR φ σ c)(d:Option Nat){a:AV}{v:Value}(hv:VR φ a v):FR φ (cU σ d a) (c.put d v):=by
 cases d with
 |none=>exact h
 |some d=>
  intro t x e;rcases oI eR σ d t x e with⟨rfl,b⟩|⟨f,b⟩
  ·subst b;rw[mz,rH];exact hv
  ·rw[mz,Lo _ _ _ _ f];exact h t x b
theorem da(s:List Nat):(eJ s).toList=s.map UInt8.ofNat:=ByteArray.toList_mk _
theorem iE(s:List Nat):(eJ s).size=s.length:=by
 show(s.map UInt8.ofNat).toArray.size=_;simp
theorem CK(a b:List Nat):eJ a++eJ b=eJ (a++b):=by
 apply ByteArray.ext;simp[eJ]
theorem AN(s:List Nat)(l h:Nat):(eJ s).extract l h=eJ ((s.drop l).take (h-l)):=by
 unfold eJ;rw[ByteArray.extract_mk];simp[q4i,List.map_drop]
theorem ofNat_inj{a b:Nat}(c:a<256)(d:b<256)(h:UInt8.ofNat a=UInt8.ofNat b):a=b:=by
 have:=congrArg UInt8.toNat h;simp only[UInt8.toNat_ofNat']at this;omega
theorem mG:∀(a b:List Nat),(∀x∈a,x<256)->(∀x∈b,x<256)->dh a b=(a.map UInt8.ofNat==b.map UInt8.ofNat)
 | [],[],_,_=>by simp[dh]
 | [],_::_,_,_=>by simp[dh]
 |_::_,[],_,_=>by simp[dh]
 |a::x,b::y,f,g=>by
  unfold dh;have i:=mG x y (λz c=>f z (by simp[c])) (λz c=>g z (by simp[c]));rw[q1r,q1r,List.cons_beq_cons];split
  ·rename_i e;have:=q0d e;subst this;simp[i]
  ·rename_i e;have d:a≠b:=λq=>by subst q;simp at e
   have:UInt8.ofNat a≠UInt8.ofNat b:=λq=>d (ofNat_inj (f a (by simp)) (g b (by simp)) q)
   simp[this]
theorem CL:∀(a b:List Nat),(∀x∈a,x<256)->(∀x∈b,x<256)->ltL a b=Op.bytesLess (a.map UInt8.ofNat) (b.map UInt8.ofNat)
 | [],[],_,_=>by simp[ltL,Op.bytesLess]
 | [],_::_,_,_=>by simp[ltL,Op.bytesLess]
 |_::_,[],_,_=>by simp[ltL,Op.bytesLess]
 |a::x,b::y,i,j=>by
  unfold ltL;have k:=CL x y (λz f=>i z (by simp[f])) (λz f=>j z (by simp[f]));have c:=i a (by simp);have d:=j b (by simp);rw[q1r,q1r,Op.bytesLess];split
  ·rename_i e;have:=q0d e;subst this;simp[k]
  ·rename_i e;have g:a≠b:=λq=>by subst q;simp at e
   have l:UInt8.ofNat a≠UInt8.ofNat b:=λq=>g (ofNat_inj c d q)
   have m:decide (UInt8.ofNat a<UInt8.ofNat b)=Nat.blt a b:=by
    rw[q2r,decide_eq_true_eq,UInt8.lt_iff_toNat_lt,UInt8.toNat_ofNat',UInt8.toNat_ofNat',q1p c,q1p d];simp[q2q]
   simp[l,m]
section
variable {P:Program} {φ:Ph} {H:AH} {n:Nat} {h0 h:Hp} {K:Value->Prop}
theorem wx{op:BinOp}{t:TypeId}{k g:IntKind}{a b:Int}{r:AV}(e:Pp op k g a b=some r)(d:∀v,VR φ r v->K v):kY P op t (.int k a) (.int g b) K:=by
 unfold Pp at e
 (try simp only[kY])
 cases op<;>simp only at e⊢
 case shl=>split at e<;>first|(injection e with e;subst e;exact⟨by assumption,d _ (.int _ _)⟩)|cases e
 case shr=>split at e<;>first|(injection e with e;subst e;exact⟨by assumption,d _ (.int _ _)⟩)|cases e
 case quo=>
  split at e
  ·rename_i c;split at e
   ·cases e
   ·rename_i f;injection e with e;subst e;exact⟨c,f,d _ (.int _ _)⟩
  ·cases e
 case rem=>
  split at e
  ·rename_i c;split at e
   ·cases e
   ·rename_i f;injection e with e;subst e;exact⟨c,f,d _ (.int _ _)⟩
  ·cases e
 case neq=>
  split at e
  ·rename_i c;injection e with e;subst e;refine⟨c,?_⟩;have:decide (a≠b)=!decide (a=b):=by by_cases q:a=b<;>simp[q]
   rw[this];exact d _ (.bool _)
  ·cases e
 all_goals
  split at e
  ·rename_i c;injection e with e;subst e;exact⟨c,d _ (by first|exact .int _ _|exact .bool _)⟩
  ·cases e
theorem wy{op:BinOp}{t:TypeId}{a b:List Nat}{r:AV}(c:∀x∈a,x<256)(d:∀x∈b,x<256)(e:LJ op a b=some r)(g:∀v,VR φ r v->K v):kY P op t (.string (eJ a)) (.string (eJ b)) K:=by
 unfold LJ at e;have i:dh a b=((eJ a).toList==(eJ b).toList):=by rw[da,da];exact mG a b c d
 have j:ltL a b=Op.bytesLess (eJ a).toList (eJ b).toList:=by rw[da,da];exact CL a b c d
 cases op<;>simp only at e<;>simp only[kY]
 case add=>
  split at e
  ·rename_i f;injection e with e;subst e;refine⟨by rw[iE,iE];exact f,?_⟩;rw[CK];exact g _ (.str λx k=>(q1d.1 k).elim (c x) (d x))
  ·cases e
 all_goals first|(cases e;done)|(injection e with e;subst e;(first|rw[<-i,<-j]|rw[<-i]|rw[<-j]);exact g _ (.bool _))
end
theorem VRs.of{φ:Ph}:∀{l:List AV} {c:List Value},l.length=c.length->(∀(i:Nat) (a:AV),l[i]?=some a->∃v,c[i]?=some v/\VR φ a v)->VRs φ l c
 | [],[],_,_=> .nil
 | [],_::_,h,_=>by simp at h
 |_::_,[],h,_=>by simp at h
 |a::l,v::c,h,k=>by
  obtain⟨u,d,f⟩:=k 0 a rfl
  simp only[q1t,q1z]at d;subst d;refine .cons f (VRs.of (by simpa using h) λi b e=>?_);obtain⟨w,g,j⟩:=k (i+1) b (by simpa using e);exact⟨w,by simpa using g,j⟩
theorem VRs.Yh{φ:Ph}{l:List AV}{c:Array Value}(h:VRs φ l c.toList):CR φ c 0 l:=CR.of' h
theorem CR.VK{φ:Ph}{l:List AV}{c:Array Value}(b:l.length=c.size)(h:CR φ c 0 l):VRs φ l c.toList:=
 VRs.of (by simpa using b) λi a e=>by
  obtain⟨v,d,f⟩:=h i a e;exact⟨v,by simpa using d,f⟩
theorem mH(φ:Ph)(z:Value):VRs φ (ofV z).cells z.cells.toList:=by
 have h:=pP (φ:=φ) z
 have a:okC (ofV z)=true:=by
  unfold ofV;split
  ·rfl
  ·rfl
  ·rename_i b c;unfold CF;split<;>first|rfl|(cases z<;>first|rfl|exact(b _ rfl).elim|exact(c _ rfl).elim)
 exact h.cells a
section
variable {P:Program} {φ:Ph} {H:AH} {n:Nat} {h0 h:Hp} {K:Value->Prop}
theorem oJ(x:HR φ H n h0 h){t:TypeId}{a r:AV}{v:Value}(A:VR φ a v)(e:yZ P t a H=some r)(j:∀u,VR φ r u->K u):kZ P t v h K:=by
 unfold yZ at e;split at e
 ·rename_i b o;obtain⟨p,y,rfl⟩:=A.cw;split at e
  ·rename_i l z k;obtain⟨B,C,q,c,D,fz,rfl,E,F,J,L,i⟩:=x.of k y
   (try simp only[kZ,q])
   split at e
   ·rename_i d;obtain⟨v,f,g⟩:=i.nth e
    (try simp only[d,f])
    exact j v g
   ·rename_i d;split at e
    ·rename_i m s;simp only[Z8]at e;obtain⟨G,w,rfl⟩:=e;obtain⟨I,f,g⟩:=i.sub w
     (try simp only[d,s,f])
     exact j _ (.agg (by simpa using g))
    ·cases e
   ·cases e
  ·rename_i l k;obtain⟨B,C,q,c,D,fz,rfl,E,F,i⟩:=x.of k y
   (try simp only[kZ,q])
   split at e
   ·rename_i d;obtain⟨v,f,g⟩:=i.nth e
    (try simp only[d,f])
    exact j v g
   ·rename_i d;split at e
    ·rename_i m s;simp only[Z8]at e;obtain⟨G,w,rfl⟩:=e;obtain⟨I,f,g⟩:=i.sub w
     (try simp only[d,s,f])
     exact j _ (.agg (by simpa using g))
    ·cases e
   ·cases e
  ·cases e
 ·cases e
theorem jK{op:BinOp}{q:Option Bool}{r:AV}(e:qy op q=some r):∃b,q=some b/\(op= .eql/\r= .bool b∨op= .neq/\r= .bool (!b)):=by
 unfold qy at e;split at e
 ·cases e
 ·rename_i b;cases op<;>simp only at e<;>first|(cases e;done)|(injection e with e;subst e;exact⟨b,rfl,by simp⟩)
theorem jl{xs u:List AV}{v us:Array Value}(f:VRs φ xs v.toList)(g:VRs φ u us.toList):∀(l:List (Nat×Nat)) (q:Bool),jJ xs u l=some q->cP v us l=some q
 | [],q,e=>e
 |(k,o)::l,q,e=>by
  unfold jJ at e;simp only[eX]at e;split at e
  ·rename_i y a z b m p;obtain⟨w,c,i⟩:=f.at m;obtain⟨x,d,j⟩:=g.at p;rw[i.b9,q1u]at c;rw[j.b9,q1u]at d;split at e
   ·rename_i r;simp only[Z8]at e;obtain⟨s,t,rfl⟩:=e
    (try simp only[cP,c,d])
    rw[if_pos r,jl f g l s t];rfl
   ·cases e
  ·rename_i a b m p;obtain⟨w,c,i⟩:=f.at m;obtain⟨x,d,j⟩:=g.at p;rw[i.cJ.1,q1u]at c;rw[j.cJ.1,q1u]at d;split at e
   ·rename_i r;simp only[Z8]at e;obtain⟨s,t,rfl⟩:=e
    (try simp only[cP,c,d])
    rw[if_pos r,jl f g l s t,da,da,mG a b i.cJ.2 j.cJ.2];rfl
   ·cases e
  ·rename_i a b m p;obtain⟨w,c,i⟩:=f.at m;obtain⟨x,d,j⟩:=g.at p;rw[i.bZ,q1u]at c;rw[j.bZ,q1u]at d;split at e
   ·rename_i r;simp only[Z8]at e;obtain⟨s,t,rfl⟩:=e
    (try simp only[cP,c,d])
    rw[if_pos r,jl f g l s t];rfl
   ·cases e
  ·cases e
theorem CM{t:TypeId}(e:Fe P t=true):∃x,P.underlying t=some (.pointer x):=by
 unfold Fe at e;split at e
 ·exact⟨_,by assumption⟩
 ·cases e
theorem Fl{t:TypeId}(e:wi P t=true):∃x,P.underlying t=some (.slice x):=by
 unfold wi at e;split at e
 ·exact⟨_,by assumption⟩
 ·cases e
theorem rU{t:TypeId}(e:vm P t=true):P.underlying t=some .bool:=by
 unfold vm at e;split at e
 ·assumption
 ·cases e
theorem uI(d:HR φ H n h0 h){b:Nat}{p:Pl}(g:φ b=some p)(e:AG H b=true):∃c t o,H.get b=some o/\o.own=true/\h.f p.B=some (.cells c t (0,0)):=by
 unfold AG at e;split at e
 ·rename_i l a;obtain⟨m,q,i,c,j,fz,rfl,_,_,_,k,_⟩:=d.of a g;have:=k rfl
  subst this;exact⟨c,j,_,a,rfl,i⟩
 ·cases e
theorem ny(M:HR φ H n h0 h){op:BinOp}{t:TypeId}{x y r:AV}{v u:Value}(z:VR φ x v)(E:VR φ y u)(e:yK P op t x y H=some r)(w:∀u,VR φ r u->K u):jG P op t v u h K:=by
 unfold yK at e;split at e
 ·rename_i k a U b;rw[z.b9,E.b9];show kY P op t (.int k a) (.int U b) K;exact wx e w
 ·rename_i a b;obtain⟨rfl,V⟩:=z.cJ;obtain⟨rfl,W⟩:=E.cJ;show kY P op t (.string (eJ a)) (.string (eJ b)) K;exact wy V W e w
 ·rename_i a b;rw[z.bZ,E.bZ];split at e
  ·rename_i j;have j:=rU j;obtain⟨q,d,⟨rfl,rfl⟩|⟨rfl,rfl⟩⟩:=jK e
   ·injection d with d;subst d;exact⟨j,w _ (.bool _)⟩
   ·injection d with d;subst d;exact⟨j,w _ (.bool _)⟩
  ·cases e
 ·rename_i b o X G;obtain⟨p,I,rfl⟩:=z.cw;obtain⟨D,g,rfl⟩:=E.cw;obtain⟨q,d,i⟩:=jK e
  have key:∃el k,P.underlying t=some (.pointer el)/\aE P el=some (k+1)/\
   ((⟨p.B,p.s+o,none⟩:Addr)=⟨D.B,D.s+G,none⟩∨(∃ca Y cb Z,h.f p.B=some (.cells ca Y (0,0))/\h.f D.B=some (.cells cb Z (0,0))))/\q=decide ((⟨p.B,p.s+o,none⟩:Addr)=⟨D.B,D.s+G,none⟩):=by
   unfold VJ at d;split at d
   ·rename_i el J;split at d
    ·rename_i k L;refine⟨el,k,J,L,?_⟩;split at d
     ·rename_i A;simp only[Z7]at A;have N:=q0d A.1;have O:=q0d A.2;subst N O;rw[I]at g;injection g with g;subst g;injection d with d;subst d;exact⟨.inl rfl,by simp⟩
     ·rename_i A;split at d
      ·rename_i F;injection d with d;subst d;simp only[Z7]at F;obtain⟨c,ty,ob,g1,g5,g2⟩:=uI M I F.1;obtain⟨c',Q,ob',g3,g6,g4⟩:=uI M g F.2;refine⟨.inr ⟨c,ty,c',Q,g2,g4⟩,?_⟩
       have R:¬(⟨p.B,p.s+o,none⟩:Addr)=⟨D.B,D.s+G,none⟩:=λq=>by
        injection q with q1 q2;have:=M.inj b X _ _ p D g1 g3 g5 g6 I g q1;subst this;rw[I]at g;injection g with g;subst g;have:o=G:=by omega
        subst this;simp at A
       simp[R]
      ·cases d
    ·cases d
   ·cases d
  obtain⟨el,k,J,L,T,rfl⟩:=key;rcases i with⟨rfl,rfl⟩|⟨rfl,rfl⟩
  ·(try simp only[jG,Jd,J])
   exact⟨⟨k,L⟩,T,w _ (.bool _)⟩
  ·(try simp only[jG,Jd,J])
   exact⟨⟨k,L⟩,T,w _ (.bool _)⟩
 ·rw[E.aU];split at e
  ·rename_i j;obtain⟨el,j⟩:=CM j;obtain⟨q,d,i⟩:=jK e
   have key:∃a,v= .pointer a/\q=a.isNone:=by
    unfold LK at d;split at d
    ·injection d with d;exact⟨none,z.aU,d.symm⟩
    ·obtain⟨p,_,rfl⟩:=z.cw;injection d with d;exact⟨_,rfl,d.symm⟩
    ·injection d with d;exact⟨_,z.vn,d.symm⟩
    ·cases d
   obtain⟨a,rfl,rfl⟩:=key;have S:jG P op t (.pointer a) (.pointer none) h K=kY P op t (.pointer a) (.pointer none) K:=by cases a<;>rfl
   rw[S];rcases i with⟨rfl,rfl⟩|⟨rfl,rfl⟩
   ·(try simp only[kY,j]);exact w _ (.bool _)
   ·(try simp only[kY,j]);exact w _ (.bool _)
  ·cases e
 ·rw[E.c9];split at e
  ·rename_i j;obtain⟨el,j⟩:=Fl j;obtain⟨q,d,i⟩:=jK e
   have key:∃a m c,v= .slice a m c/\q=a.isNone:=by
    unfold LL at d;split at d
    ·injection d with d;exact⟨none,_,_,z.c9,d.symm⟩
    ·obtain⟨p,C,_,rfl,_⟩:=z.eT;injection d with d;exact⟨_,_,_,rfl,d.symm⟩
    ·obtain⟨p,x,C,_,rfl,_⟩:=z.kC;injection d with d;exact⟨_,_,_,rfl,d.symm⟩
    ·cases d
   obtain⟨a,m,c,rfl,rfl⟩:=key;rcases i with⟨rfl,rfl⟩|⟨rfl,rfl⟩
   ·(try simp only[jG,kY,j]);exact w _ (.bool _)
   ·(try simp only[jG,kY,j]);exact w _ (.bool _)
  ·cases e
 ·rename_i xs ys;obtain⟨vs,rfl,N⟩:=z.dY;obtain⟨us,rfl,O⟩:=E.dY;obtain⟨q,d,i⟩:=jK e
  have key:vL P t vs us=some q:=by
   simp only[q2a]at d;obtain⟨l,hl,d⟩:=d;simp only[vL,hl,q2e];exact jl N O l q d
  rcases i with⟨rfl,rfl⟩|⟨rfl,rfl⟩
  ·(try simp only[jG,kY,key]);exact w _ (.bool _)
  ·(try simp only[jG,kY,key]);exact w _ (.bool _)
 ·cases e
theorem zb{op:UnOp}{x r:AV}{v:Value}(a:VR φ x v)(e:eun op x=some r)(b:∀u,VR φ r u->K u):aun op v K:=by
 unfold eun at e;split at e
 ·rw[a.bZ];injection e with e;subst e;exact b _ (.bool _)
 ·rw[a.b9];injection e with e;subst e;exact b _ (.int _ _)
 ·rw[a.b9];injection e with e;subst e;exact b _ (.int _ _)
 ·cases e
theorem oL{t:TypeId}{l:List AV}{off:Nat}{r:AV}{cs:Array Value}(c:VRs φ l cs.toList)(e:y5 P t l off=some r)(d:∀u,VR φ r u->K u):nc P t cs off K:=by
 unfold y5 at e;split at e
 ·rename_i a;obtain⟨v,b,f⟩:=c.at (by rw[<-eX];exact e);rw[q1u]at b
  (try simp only[nc,a,b])
  exact d v f
 ·rename_i a;split at e
  ·rename_i m g;simp only[Z8]at e;obtain⟨j,i,rfl⟩:=e;obtain⟨b,rfl⟩:=br i
   (try simp only[nc,a,g])
   refine d _ (.agg ?_);have:=(c.drop off).take m;rw[Array.toList_extract,List.extract_eq_take_drop];rw[show off+m-off=m from by omega];exact this
  ·cases e
 ·cases e
theorem AP{s:TypeId}{x r:AV}{i:Nat}{v:Value}(a:VR φ x v)(e:Ff P s x i=some r)(b:∀u,VR φ r u->K u):qH P s v i K:=by
 unfold Ff at e;split at e
 ·rename_i l t off c;obtain⟨cs,rfl,d⟩:=a.dY
  (try simp only[qH,c])
  exact oL d e b
 ·cases e
theorem tM{s:TypeId}{x r:AV}{i:Nat}{v:Value}(c:VR φ x v)(e:qO P s x i=some r)(d:∀u,VR φ r u->K u):ga P s v i K:=by
 unfold qO at e;split at e
 ·rename_i b o t off a;obtain⟨p,f,rfl⟩:=c.cw;injection e with e;subst e
  (try simp only[ga,a])
  rw[q1m];exact d _ (.ptr f)
 ·rename_i l o t off a;obtain⟨q,y,g,rfl,j⟩:=c.AM;injection e with e;subst e
  (try simp only[ga,a])
  rw[q1m];exact d _ (.fa g j)
 ·cases e
theorem oM{ix:AV}{len i:Nat}{v:Value}(a:VR φ ix v)(e:eix ix len=some i):i<len/\∃k,v= .int k (i:Int):=by
 unfold eix at e;split at e
 ·rename_i k j;split at e
  ·rename_i b;injection e with e;subst e;exact⟨by simpa[q2q]using b,k,a.b9⟩
  ·cases e
 ·cases e
theorem tN{t:TypeId}{x ix r:AV}{v u:Value}(j:VR φ x v)(hi:VR φ ix u)(e:qQ P t x ix=some r)(l:∀u,VR φ r u->K u):cG P t v u K:=by
 unfold qQ at e;split at e
 ·rename_i el b o m c k a;obtain⟨p,C,d,rfl,_,_⟩:=j.eT;split at e
  ·rename_i i es f g;obtain⟨q,s,rfl⟩:=oM hi f;injection e with e;subst e
   (try simp only[cG,a,g])
   refine⟨by omega,by omega,?_⟩;rw[q0v,q1m];exact l _ (.ptr d)
  ·cases e
 ·rename_i len el b o a;obtain⟨p,d,rfl⟩:=j.cw;split at e
  ·rename_i i es f g;obtain⟨q,s,rfl⟩:=oM hi f;injection e with e;subst e
   (try simp only[cG,a,g])
   refine⟨by omega,by omega,?_⟩;rw[q0v,q1m];exact l _ (.ptr d)
  ·cases e
 ·cases e
theorem AQ{t:TypeId}{x ix r:AV}{v u:Value}(d:VR φ x v)(hi:VR φ ix u)(e:Fg P t x ix=some r)(f:∀u,VR φ r u->K u):jX P t v u K:=by
 unfold Fg at e;split at e
 ·rename_i len el l a;obtain⟨cs,rfl,j⟩:=d.dY;split at e
  ·rename_i i es b k;obtain⟨m,o,rfl⟩:=oM hi b
   (try simp only[jX,a,k])
   refine⟨by omega,by omega,?_⟩;rw[q0v];exact oL j e f
  ·cases e
 ·rename_i s a;obtain⟨rfl,p⟩:=d.cJ;split at e
  ·rename_i i b;obtain⟨m,o,rfl⟩:=oM hi b;simp only[Z8,eX]at e;obtain⟨c,g,rfl⟩:=e;have q:=p c (q0l g);simp only[jX,a,da,q0v,q0s,g,q0h];refine⟨by omega,f _ ?_⟩
   have:((UInt8.ofNat c).toNat:Int)=Int.ofNat c:=by
    rw[UInt8.toNat_ofNat',q1p q];rfl
   rw[this];exact .int _ _
  ·cases e
 ·cases e
theorem wz{x r:AV}{i:Nat}{v:Value}(b:VR φ x v)(e:wj x i=some r)(c:∀u,VR φ r u->K u):k7 v i K:=by
 unfold wj at e;split at e
 ·rename_i l;obtain⟨cs,rfl,d⟩:=b.eM;obtain⟨v,a,f⟩:=d.at (by rw[<-eX];exact e);rw[q1u]at a
  (try simp only[k7,a])
  exact c v f
 ·cases e
theorem nz(q:HR φ H n h0 h){t:TypeId}{x r:AV}{v:Value}(f:VR φ x v)(e:Ju P t x H=some r)(d:∀u,VR φ r u->K u):mA P t v h K:=by
 unfold Ju at e;split at e
 ·rename_i s a;obtain⟨rfl,_⟩:=f.cJ;injection e with e;subst e
  (try simp only[mA,a,iE])
  exact d _ (.int _ _)
 ·rename_i el a;rw[f.c9];injection e with e;subst e
  (try simp only[mA,a])
  exact d _ (.int _ _)
 ·rename_i el b a;obtain⟨p,x,C,_,rfl,_⟩:=f.kC;injection e with e;subst e
  (try simp only[mA,a])
  exact d _ (.int _ _)
 ·rename_i el b o m c k a;obtain⟨p,C,g,rfl,_,_⟩:=f.eT;injection e with e;subst e
  (try simp only[mA,a])
  exact d _ (.int _ _)
 ·rename_i m el x a;injection e with e;subst e
  (try simp only[mA,a])
  exact d _ (.int _ _)
 ·rename_i k el b a;obtain⟨p,g,rfl⟩:=f.lR;split at e
  ·rename_i es i;obtain⟨w,y,j,ms,cl,rfl,l,_⟩:=q.of i g;injection e with e;subst e;have:=MR.length l
   (try simp only[mA,a,j])
   rw[show(ms.size:Int)=(es.length:Int) from by simp[this]];exact d _ (.int _ _)
  ·rename_i es bs cl i;obtain⟨w,y,j,ms,rfl,l,_⟩:=q.of i g;injection e with e;subst e;have:=MR.length l
   (try simp only[mA,a,j])
   rw[show(ms.size:Int)=(es.length:Int) from by simp[this]];exact d _ (.int _ _)
  ·cases e
 ·cases e
theorem tO{q:Bool}{x y r:AV}{v u:Value}(a:VR φ x v)(b:VR φ y u)(e:emm q x y=some r)(c:∀u,VR φ r u->K u):cH q v u K:=by
 unfold emm at e;split at e
 ·rw[a.b9,b.b9];injection e with e;subst e;exact c _ (.int _ _)
 ·cases e
end
section
variable {P:Program} {φ:Ph} {H:AH} {n:Nat} {h0 h:Hp} {K:Value->Prop} {σ:AE} {ρ:Env}
theorem fH(c:FR φ σ ρ){x:Option Operand}{d i:Nat}(e:mC (x.map (eev σ)) d=some i)(a:Int)(hd:x=none->(i:Int)=a):bnd (x.map ρ.ev) a=some (i:Int):=by
 cases x with
 |none=>simp only[q2l,bnd];rw[hd rfl]
 |some y=>
  simp only[q0h,mC]at e;have b:=c.ev y;split at e
  ·rename_i q;cases q
  ·rename_i k j q;injection e with e;subst e;injection q with q;rw[q]at b;simp only[q0h,b.b9,bnd];rfl
  ·cases e
theorem dk{d i:Nat}(e:mC none d=some i):i=d:=by injection e with e;exact e.symm
theorem isSome_map{a b:Type}(f:a->b)(x:Option a):(x.map f).isSome=x.isSome:=by cases x<;>rfl
theorem kE(B o l a m k:Nat):iP (some ⟨B,o,none⟩) l a m k= .slice (some ⟨B,if m=l then o else o+l*k,none⟩) (a-l) (m-l):=by
 unfold iP;split
 ·rfl
 ·simp only[q0h,kX]
theorem nA(w:FR φ σ ρ){t:TypeId}{x r:AV}{v:Value}{lo hi mx:Option Operand}(L:VR φ x v)(e:jk P t x (lo.map (eev σ)) (hi.map (eev σ)) (mx.map (eev σ))=some r)(D:∀u,VR φ r u->K u):
 dz P t v (lo.map ρ.ev) (hi.map ρ.ev) (mx.map ρ.ev) K:=by
 unfold jk at e;split at e
 ·
  rename_i s;obtain⟨rfl,S⟩:=L.cJ;split at e
  ·rename_i l E F a el A;split at e
   ·rename_i N;injection e with e;subst e;have d:mx=none:=by cases mx with|none=>rfl|some y=>cases a
    subst d;have G:=fH w el 0 (λq=>by subst q;rw[dk el];rfl);have I:=fH w A ((eJ s).size:Int) (λq=>by subst q;rw[dk A,iE]);simp only[dz,F,G,I,q2l,Option.isSome_none];refine⟨trivial,trivial,by omega,by omega,by rw[iE];omega,?_⟩;rw[q0v,q0v,AN];exact D _ (.str λx L=>S x (List.mem_of_mem_drop (q3f L)))
   ·cases e
  ·cases e
 ·
  rw[L.c9];split at e
  ·rename_i el l E m F i A em;split at e
   ·rename_i N;obtain⟨rfl,rfl,rfl,a,g⟩:=N;injection e with e;subst e;obtain⟨k,g⟩:=q0n.1 g;have G:=fH w i 0 (λq=>rfl);have I:=fH w A ((0:Nat):Int) (λq=>rfl);have T:=fH w em ((0:Nat):Int) (λq=>rfl)
    (try simp only[dz,F,g,G,I,T])
    rw[isSome_map,isSome_map]at a;refine⟨by rw[isSome_map,isSome_map];exact a,by omega,by omega,?_,by omega,D _ ?_⟩
    ·unfold vR;split
     ·trivial
     ·omega
    ·exact .nsl
   ·cases e
  ·cases e
 ·
  rename_i b;obtain⟨p,x,C,J,rfl,U,V⟩:=L.kC;split at e
  ·rename_i el l E F a i A;split at e
   ·rename_i N;obtain⟨rfl,rfl,g⟩:=N;injection e with e;subst e;obtain⟨k,g⟩:=q0n.1 g;have d:mx=none:=by cases mx with|none=>rfl|some y=>cases a
    subst d;have G:=fH w i 0 (λq=>rfl);have I:=fH w A ((0:Nat):Int) (λq=>rfl);simp only[dz,F,g,G,I,q2l,wu,Option.isSome_none];refine⟨λq=>(Bool.false_ne_true q).elim,by omega,by omega,?_,by omega,D _ ?_⟩
    ·unfold vR;split
     ·trivial
     ·omega
    ·show VR φ (.esl b) (iP (some ⟨p.B,x,none⟩) 0 0 C k);rw[kE,q1o,q2o,ite_self];exact .esl J U V
   ·cases e
  ·cases e
 ·
  rename_i b o m c k;obtain⟨p,C,J,rfl,O,Q⟩:=L.eT;split at e
  ·rename_i el F;split at e
   ·rename_i es l E mm S i A em;split at e
    ·rename_i N;obtain⟨h1,h2,h3⟩:=N;have G:=fH w i 0 (λq=>by subst q;rw[dk i];rfl);have I:=fH w A (m:Int) (λq=>by subst q;rw[dk A])
     have hcC:c<=C:=by
      by_cases q:k=0
      ·rw[O q];omega
      ·exact(Q q).1
     have R:∀M:Int,(E:Int)<=M->vR (hi.map ρ.ev) (E:Int) M:=λM hM=>by
      unfold vR;split
      ·trivial
      ·exact hM
     have f:(mx.isSome=true->hi.isSome=true)->(mx=none->mm=C)->K (.slice (some ⟨p.B,p.s+(if mm=l then o else o+l*es),none⟩) (E-l) (mm-l))->dz P t (.slice (some ⟨p.B,p.s+o,none⟩) m C) (lo.map ρ.ev) (hi.map ρ.ev) (mx.map ρ.ev) K:=λa W X=>by
      have T:=fH w em (C:Int) (λq=>by rw[W q])
      (try simp only[dz,F,S,G,I,T])
      refine⟨by rw[isSome_map,isSome_map];exact a,by omega,by omega,R _ (by omega),by omega,?_⟩;rw[q0v,q0v,q0v,kE];have:(if mm=l then p.s+o else p.s+o+l*es)=p.s+(if mm=l then o else o+l*es):=by split<;>omega
      rw[this];exact X
     split at e
     ·rename_i a;have d:mx=none:=by cases mx with|none=>rfl|some y=>cases a
      subst d;have hm:=dk em;injection e with e;subst e;exact f (λq=>by cases q) (λ_=>by rw[hm,O rfl]) (D _ (.sl J (λ_=>rfl) (λq=>(q rfl).elim)))
     ·rename_i y a;split at e
      ·rename_i j;injection e with e;subst e;rw[isSome_map]at j;have d:mx≠none:=λq=>by subst q;cases a
       exact f (λ_=>j) (λq=>(d q).elim) (D _ (.sl J (λ_=>rfl) (λq=>(q rfl).elim)))
      ·cases e
     ·rename_i z a;have d:mx=none:=by cases mx with|none=>rfl|some y=>cases a
      subst d;obtain⟨_,hT⟩:=Q (by omega);split at e
      ·rename_i Y;subst Y;have hm:=dk em
       have red:K (iP (some ⟨p.B,p.s+o,none⟩) l E C (z+1))->dz P t (.slice (some ⟨p.B,p.s+o,none⟩) m C) (lo.map ρ.ev) (hi.map ρ.ev) (Option.map ρ.ev none) K:=λX=>by
        simp only[dz,F,S,G,I,q2l,wu];refine⟨(λq=>by cases q),by omega,by omega,R _ (by omega),by omega,?_⟩;rw[q0v,q0v,q0v];exact X
       refine red ?_;rw[kE];split at e
       ·rename_i hl;injection e with e;subst e
        have e4:(if C=l then p.s+o else p.s+o+l*(z+1))=p.s+(o+l*(z+1)):=by
         split
         ·rename_i q;have:l=0:=by omega
          subst this;omega
         ·omega
        rw[e4];refine D _ (.sl J (λq=>by omega) (λ_=>⟨by omega,?_⟩))
        have:l*(z+1)+(C-l)*(z+1)=C*(z+1):=by
         rw[<-q2i];congr 1;omega
        rw[q1m,this];exact hT
       ·rename_i hl;injection e with e;subst e;have:E-l=0:=by omega
        have hlc:l=c:=by omega
        have Z:l*(z+1)<=C*(z+1):=q1h _ (by omega);rw[this];exact D _ (.esl J (by split<;>omega) (by rw[show C*(z+1)=C*z.succ from rfl]at Z;split<;>omega))
      ·cases e
     ·rename_i y a;split at e
      ·rename_i j;injection e with e;subst e;rw[isSome_map]at j;have d:mx≠none:=λq=>by subst q;cases a
       exact f (λ_=>j) (λq=>(d q).elim) (D _ (.sl J (λ_=>rfl) (λq=>(q rfl).elim)))
      ·cases e
    ·cases e
   ·cases e
  ·cases e
 ·cases e
theorem nB{place:Nat->Option (Nat×Nat)}:∀(d:List (Nat×Operand)) (cells r:List AV) (c:Array Value),FR φ σ ρ->VRs φ cells c.toList->y6 place cells (d.map λx=>(x.1,eev σ x.2))=some r->
 ∃r',rL place c (d.map λx=>(x.1,ρ.ev x.2))=some r'/\VRs φ r r'.toList
 | [],cells,r,c,_,f,e=>by
  injection e with e;subst e;exact⟨c,rfl,f⟩
 |x::d,cells,r,c,j,f,e=>by
  simp only[q1r,y6]at e;split at e
  ·cases e
  ·rename_i off size l;split at e
   ·rename_i m g b;simp only[Z7]at g;have hlen:=q0d g.1;have k:=(j.ev x.2).cells g.2.1;have hle:=Z0 g.2.2;have o:=k.length;obtain⟨v,w,y⟩:=iD _ _ _ _ b;have i:=f.length;have p:cells.length=c.size:=by simpa using i
    have a:=(f.Yh).set b k (by omega);rw[q0w]at a;have:=a.VK (by rw[ft];omega);obtain⟨r',q,s⟩:=nB d m r _ j this e;refine⟨r',?_,s⟩;simp only[q1r,rL,l];have t:x.2=x.2:=rfl
    have u:(ρ.ev x.2).cells.size=size:=by rw[<-hlen,o,Array.length_toList]
    rw[if_pos ⟨u,by omega⟩];exact q
   ·cases e
theorem CN(c:FR φ σ ρ){t:TypeId}{d:Array (Nat×Operand)}{r:List AV}(e:Fh P t (d.toList.map λx=>(x.1,eev σ x.2))=some r):
 ∃r',pN P t (d.toList.map λx=>(x.1,ρ.ev x.2))=some r'/\VRs φ r r'.toList:=by
 unfold Fh at e;unfold pN;split at e
 ·rename_i z f
  (try simp only[f])
  split at e
  ·rename_i i b
   (try simp only[b])
   split at e
   ·rename_i a;rw[if_pos a];exact nB _ _ _ _ c (mH φ z) e
   ·cases e
  ·rename_i m el b
   (try simp only[b])
   split at e
   ·rename_i s g
    (try simp only[g])
    exact nB _ _ _ _ c (mH φ z) e
   ·cases e
  ·cases e
 ·cases e
theorem tQ{z:List AV}{a:List Value}(b:VRs φ z a):∀m,VRs φ (iT z m) (cQ a m)
 |0=> .nil
 |m+1=>b.append (tQ b m)
theorem AS(b:FR φ σ ρ){t:TypeId}{len:Nat}{a:Array (Nat×Operand)}{r:List AV}(e:AK P t len (a.toList.map λx=>(x.1,eev σ x.2))=some r):
 ∃el r',dX P t len (a.toList.map λx=>(x.1,ρ.ev x.2))=some (el,r')/\VRs φ r r'.toList:=by
 unfold AK at e;unfold dX;split at e
 ·rename_i el c
  (try simp only[c])
  split at e
  ·rename_i s z d f
   (try simp only[d,f])
   split at e
   ·rename_i g;rw[if_pos g];obtain⟨r',i,j⟩:=nB a.toList _ _ (cQ z.cells.toList len).toArray b (by simpa using tQ (mH φ z) len) e;exact⟨el,r',by rw[i];rfl,j⟩
   ·cases e
  ·cases e
 ·cases e
theorem wA:∀{xs f:List AV} {c us:List Value},VRs φ xs c->VRs φ f us->wm xs f=some true->c=us/\∀n,((c.zip us).all λ(x,y)=>Instr.sameBits n x y)=true
 | [],[],c,us,j,k,_=>by rw[j.aU,k.aU];exact⟨rfl,λ_=>rfl⟩
 | [],y::f,_,_,_,_,e=>by simp[wm]at e
 |x::xs,[],_,_,_,_,e=>by cases x<;>simp[wm]at e
 |x::xs,y::f,c,us,j,k,e=>by
  unfold wm at e;split at e
  ·rename_i d g;cases d
  ·rename_i a o b p d g;injection d with d r;injection g with g e4;subst d g r e4;obtain⟨v,s,rfl,t,w⟩:=j.cons_inv;obtain⟨u,z,rfl,A,B⟩:=k.cons_inv;simp only[Z8,Z7]at e;obtain⟨q,C,l,rfl⟩:=e;obtain⟨rfl,D⟩:=t.cJ;obtain⟨rfl,E⟩:=A.cJ;obtain⟨m,i⟩:=wA w B C
   have:eJ a=eJ b:=by
    rw[mG a b D E]at l;have:=beq_iff_eq.1 l;unfold eJ;rw[this]
   rw[this,m];refine⟨rfl,λn=>?_⟩;have i:=i n;rw[m]at i;simp only[List.zip_cons_cons,q1x,i,Bool.and_true];simp[Instr.sameBits,bytes_beq]
  ·cases e
theorem wB{j:TypeDesc}{a b:AV}{v u:Value}{q:Bool}(f:VR φ a v)(g:VR φ b u)(e:CG j a b=some q):ou j v u=some q:=by
 unfold CG at e;split at e
 ·rename_i k m D E;rw[f.b9,g.b9];split at e
  ·rename_i l;injection e with e;subst e;rw[oz rfl];simp only[Instr.sameNow];rw[if_pos l];congr 1
  ·cases e
 ·rename_i s r;obtain⟨rfl,c⟩:=f.cJ;obtain⟨rfl,d⟩:=g.cJ;injection e with e;subst e;rw[oz rfl];simp only[Instr.sameNow];congr 1;rw[mG s r c d,q2r,bytes_beq,beq_iff_eq];constructor
  ·intro q;have:=congrArg ByteArray.toList q;rwa [da,da]at this
  ·intro q;unfold eJ;rw[q]
 ·rename_i F xs G;obtain⟨cs,rfl,c⟩:=f.dY;obtain⟨o,rfl,d⟩:=g.dY;split at e
  ·rename_i p I t es;split at e
   ·rename_i i;injection e with e;subst i e;have w:=jl c d _ _ t;unfold ou;dsimp only;rw[w];cases p with
    |false=>rfl
    |true=>
     obtain⟨z,A⟩:=wA c d es;have B:cs=o:=Array.toList_inj.1 z;subst B
     have C:Instr.sameBits 10000 (.agg cs) (.agg cs)=true:=by
      show(cs.size==cs.size&&(cs.toList.zip cs.toList).all λ(x,y)=>Instr.sameBits 9999 x y)=true;rw[A 9999];simp
     dsimp only;rw[if_pos C]
   ·cases e
  ·cases e
 ·cases e
theorem im{b:TypeDesc}{k:AV}{v:Value}(c:VR φ k v):∀(es:List (AV×AV)) (ms:List MapEntry) (i:Nat) (r:Option (Nat×AV)),MR φ es ms->mD b k es i=some r->
 ∃r',gQ b v ms i=some r'/\(match r,r' with
  |none,none=>True
  |some (j,a),some (o,u)=>j=o/\VR φ a u
  |_,_=>False)
 | [],ms,i,r,p,e=>by
  unfold mD at e;split at e
  ·rename_i ho;injection e with e;subst e;rw[show ms=[] from p]
   have:rN b v=true:=by
    unfold rN;unfold AI at ho;split at ho
    ·rename_i y xs;obtain⟨cs,rfl,d⟩:=c.dY;obtain⟨r,q⟩:=q0n.1 ho;dsimp only;rw[jl d d _ _ q];rfl
    ·cases ho
    ·rename_i g f;cases b<;>first|rfl|exact(g _ rfl).elim|exact(f _ rfl).elim
   exact⟨none,by simp only[gQ,this],trivial⟩
  ·cases e
 |x::es,ms,i,r,⟨m,us,g,f,s,t⟩,e=>by
  subst g;unfold mD at e;split at e
  ·rename_i l;injection e with e;subst e;have:=wB c f l;refine⟨some (i,m.val),by simp only[gQ,this],rfl,s⟩
  ·rename_i l;have:=wB c f l;obtain⟨r',d,w⟩:=im c es us (i+1) r t e;exact⟨r',by simp only[gQ,this,d],w⟩
  ·cases e
theorem ia(J:HR φ H n h0 h){t:TypeId}{m k r:AV}{ok:Bool}{C o:Value}(N:VR φ m C)(F:VR φ k o)(e:jC P t m k ok H=some r)(D:∀u,VR φ r u->K u):fO P t C o ok h K:=by
 have main:∀(b:Nat) (p:Pl) (s i:TypeId) (g:TypeDesc) (es:List (AV×AV)) (ms:Array MapEntry) (cl:Nat),dM P t=some (s,g,i)->C= .map (some p.B)->h.f p.B=some (.map ms cl)->MR φ es ms.toList->tH P g i k ok es=some r->fO P t C o ok h K:=λb p s i g es ms cl c G v w e=>by
  subst G
  have fin:∀{q},mD g k es 0=some q->∃d,gQ g o ms.toList 0=some d/\ky P t (.map (some p.B)) o ok h=found (cZ P i) ok d/\(match q,d with
   |none,none=>True
   |some (j,a),some (L,u)=>j=L/\VR φ a u
   |_,_=>False):=λ{q} y=>by
   obtain⟨d,E,A⟩:=im F es ms.toList 0 q w y;refine⟨d,E,?_,A⟩;simp only[ky,c,q2e,tB,v,E]
  unfold tH at e;split at e
  ·rename_i j a y;obtain⟨d,E,A,l⟩:=fin y;cases d with
   |none=>exact l.elim
   |some x=>
    obtain⟨L,u⟩:=x;obtain⟨_,l⟩:=l;injection e with e;subst e
    (try simp only[fO,A,found])
    cases ok
    ·exact D _ l
    ·exact D _ (.tup (cs:= #[u,.bool true]) (.cons l (.cons (.bool _) .nil)))
  ·rename_i y;obtain⟨d,E,A,l⟩:=fin y;cases d with
   |some x=>exact l.elim
   |none=>
    split at e
    ·rename_i z O;injection e with e;subst e;simp only[fO,A,found,O,q0h];cases ok
     ·exact D _ (pP z)
     ·exact D _ (.tup (cs:= #[z,.bool false]) (.cons (pP z) (.cons (.bool _) .nil)))
    ·cases e
  ·cases e
 unfold jC at e;split at e
 ·rename_i b s g i c;obtain⟨p,M,rfl⟩:=N.lR;split at e
  ·rename_i es I;obtain⟨Q,R,v,ms,cl,rfl,w,_⟩:=J.of I M;exact main b p s i g es ms cl c rfl v w e
  ·rename_i es bs cl I;obtain⟨Q,R,v,ms,rfl,w,_⟩:=J.of I M;exact main b p s i g es ms cl c rfl v w e
  ·cases e
 ·cases e
theorem uJ(w:HR φ H n h0 h)(d:FR φ σ ρ){o:Op}{r:AV}(e:rS P o σ H=some r)(g:∀u,VR φ r u->K u):dG P o ρ h K:=by
 unfold rS at e;split at e
 ·rename_i x;injection e with e;subst e;exact g _ (d.ev x)
 ·rename_i x;injection e with e;subst e;exact g _ (d.ev x)
 ·rename_i c a b;have z:=d.ev c
  (try simp only[dG])
  split at e
  ·rename_i q;rw[q]at z;rw[z.bZ];injection e with e;subst e;exact g _ (d.ev a)
  ·rename_i q;rw[q]at z;rw[z.bZ];injection e with e;subst e;exact g _ (d.ev b)
  ·cases e
 ·rename_i t parts;simp only[Z8]at e;obtain⟨l,k,rfl⟩:=e;obtain⟨I,i,j⟩:=CN d k
  (try simp only[dG,i])
  exact g _ (.agg j)
 ·exact oJ w (d.ev _) e g
 ·rename_i x;have A:=d.ev x
  (try simp only[dG])
  split at e
  ·rename_i b o q;rw[q]at A;obtain⟨p,F,B⟩:=A.cw;injection e with e;subst e;rw[B];exact g _ (.ptr F)
  ·rename_i f a c q;rw[q]at A;obtain⟨J,L,B,i,j⟩:=A.nu;injection e with e;subst e;rw[B];exact g _ (.fn i j)
  ·cases e
 ·exact ny w (d.ev _) (d.ev _) e g
 ·exact zb (d.ev _) e g
 ·rename_i f first captured
  injection e with e;subst e;refine g _ (.fn ?_ ?_)
  ·rw[q3y];exact VRs.map d.ev _
  ·rw[q3y];exact VRs.map d.ev _
 ·exact nA d (d.ev _) e g
 ·exact tM (d.ev _) e g
 ·exact AP (d.ev _) e g
 ·exact tN (d.ev _) (d.ev _) e g
 ·exact AQ (d.ev _) (d.ev _) e g
 ·exact wz (d.ev _) e g
 ·exact ia w (d.ev _) (d.ev _) e g
 ·rename_i c;have hm:=VRs.map d.ev c.args.toList
  (try simp only[dG])
  split at e
  ·rename_i t x k G m;rw[m]at hm;obtain⟨v,us,i,j,s⟩:=hm.cons_inv;rw[s.aU]at i
   (try simp only[k,G,i,dJ])
   exact nz w j e g
  ·rename_i x y k m;rw[m]at hm;obtain⟨v,us,i,j,s⟩:=hm.cons_inv;obtain⟨u,ws,C,D,E⟩:=s.cons_inv;rw[C,E.aU]at i
   (try simp only[k,i,dJ])
   exact tO j D e g
  ·rename_i x y k m;rw[m]at hm;obtain⟨v,us,i,j,s⟩:=hm.cons_inv;obtain⟨u,ws,C,D,E⟩:=s.cons_inv;rw[C,E.aU]at i
   (try simp only[k,i,dJ])
   exact tO j D e g
  ·cases e
 ·cases e
end
end Go.Proofs.YtflehenfikoniaaGreat
end
