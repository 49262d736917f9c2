/- Texts of our own, joined: the engine, the machine that runs code, and what is known of the functions. -/
import Derived.Test.YtflehenfikoniaaGreatRows
import Derived.WalkKit
import Derived.Deep.Quiet
import Derived.ProofKit
import Derived.Laws.StructEq
import Derived.LaidEql
import Derived.Laws.BytesArg
import Derived.Maps.RangeRun
import Derived.RangeFuncSeq
import Derived.Scope
import Derived.Laws.Strings
import Derived.Laws.Strings2
set_option linter.unusedSimpArgs false
set_option linter.unusedVariables false
set_option maxHeartbeats 16000000
set_option maxRecDepth 100000
namespace Go.Proofs.YtflehenfikoniaaGreat
open Go Go.RowKit
abbrev Env:=Nat->Value
def Env.upd (ρ:Env) (d:Nat) (v:Value):Env:=fun t=>if t=d then v else ρ t
def Env.put (ρ:Env) (d:Option Nat) (v:Value):Env:=match d with
 |some d=>ρ.upd d v
 |none=>ρ
def Env.ev (ρ:Env):Operand->Value
 | .tmp t=>ρ t
 | .const v=>v
 | .global g=> .pointer (some ⟨g,0,none⟩)
 | .func f=> .func (.func f) #[] #[]
theorem uk (ρ:Env) (d:Nat) (v:Value):ρ.upd d v d=v:=by simp[Env.upd]
theorem QR (ρ:Env) (d:Nat) (v:Value) (t:Nat) (h:t≠d):ρ.upd d v t=ρ t:=by simp[Env.upd,h]
theorem qj (ρ:Env) (d:Nat) (v:Value):ρ.put (some d) v=ρ.upd d v:=rfl
def Rel (n:Nat) (a:Act) (ρ:Env):Prop:=a.defers=[]/\a.tmps.size=n/\∀t,a.tmps.getD t undef=ρ t
theorem Rel.eval {n:Nat} {a:Act} {ρ:Env} (h:Rel n a ρ):a.eval=ρ.ev:=by
 funext x;cases x with
 |tmp t=>exact h.2.2 t
 |_=>rfl
theorem Rel.put {n:Nat} {a:Act} {ρ:Env} (h:Rel n a ρ) {d:Option Nat} (hd:∀t,d=some t->t<n) (v:Value):Rel n (a.put d v) (ρ.put d v):=by
 cases d with
 |none=>exact h
 |some d=>
  have hlt:=hd d rfl
  refine⟨h.1,by simp[Act.put,h.2.1],fun t=>?_⟩;have h1:=h.2.2 t;by_cases e:t=d
  ·subst e;simp[Act.put,Env.put,Env.upd,h.2.1,hlt]
  ·have e':¬d=t:=fun x=>e x.symm
   simp only[Act.put,Env.put,Env.upd,if_neg e];rw[<-h1];simp[Array.getD_eq_getD_getElem?,Array.getElem?_setIfInBounds_ne e']
structure Hp where
 f:Nat->Option Obj
 n:Nat
def Hp.put (h:Hp) (b:Nat) (o:Obj):Hp:=⟨fun x=>if x=b then some o else h.f x,h.n⟩
def Hp.to (h:Hp) (n:Nat):Hp:=⟨h.f,n⟩
def Is (w:World) (h:Hp):Prop:=w.heap.size=h.n/\∀b o,h.f b=some o->w.heap[b]?=some o
def bG (w w':World):Prop:=w'.os=w.os/\w'.tape=w.tape/\w'.output=w.output
theorem bG.refl (w:World):bG w w:=⟨rfl,rfl,rfl⟩
theorem bG.trans {a b c:World} (h:bG a b) (k:bG b c):bG a c:=⟨k.1.trans h.1,k.2.1.trans h.2.1,k.2.2.trans h.2.2⟩
def Sub (g h:Hp):Prop:=g.n=h.n/\∀b o,g.f b=some o->h.f b=some o
theorem Sub.refl (h:Hp):Sub h h:=⟨rfl,fun _ _ e=>e⟩
theorem Is.sub {w:World} {g h:Hp} (hi:Is w h) (hs:Sub g h):Is w g:=⟨hi.1.trans hs.1.symm,fun b o e=>hi.2 b o (hs.2 b o e)⟩
theorem Jg (h:Hp) (b:Nat) (o:Obj):(h.put b o).n=h.n:=rfl
theorem GZ (h:Hp) (n:Nat):(h.to n).n=n:=rfl
theorem G0 (h:Hp) (n:Nat):(h.to n).f=h.f:=rfl
theorem Jh (h:Hp) (n b:Nat) (o:Obj):(h.to n).put b o=(h.put b o).to n:=rfl
theorem bO (h:Hp) (b:Nat) (o:Obj):(h.put b o).f b=some o:=by simp[Hp.put]
theorem aR (h:Hp) (b:Nat) (o:Obj) (x:Nat) (hx:x≠b):(h.put b o).f x=h.f x:=by simp[Hp.put,hx]
theorem yj (h:Hp) (b:Nat) (o o':Obj):(h.put b o).put b o'=h.put b o':=by
 simp only[Hp.put];congr 1;funext x;split<;>rfl
def um (P:Program) (f:FuncId) (args:Array Value) (h:Hp) (K:Value->Hp->Prop):Prop:=
 ∀w,Is w h->Calls P f args w fun e w'=>∃v h',e= .returned v/\Is w' h'/\bG w w'/\K v h'
theorem um.mono {P:Program} {f:FuncId} {args:Array Value} {h:Hp} {K K':Value->Hp->Prop} (hc:um P f args h K) (hk:∀v h',K v h'->K' v h'):um P f args h K':=
 fun w hw=>(hc w hw).mono fun _ _ ⟨v,h',e,i,s,k⟩=>⟨v,h',e,i,s,hk v h' k⟩
def Fin (K:Value->Hp->Prop) (v:Value) (h:Hp):Prop:=∃g,Sub g h/\K v g
theorem Fin.here {K:Value->Hp->Prop} {v:Value} {h:Hp} (k:K v h):Fin K v h:=⟨h,Sub.refl h,k⟩
def aB (P:Program) (t:TypeId):Option Nat:=(P.info? t).map (·.size)
def jS (P:Program) (t:TypeId):Option Nat:=(P.info? t).map (·.bytes)
def cL (P:Program) (t:TypeId):Option Value:=(P.info? t).bind (·.zero)
def m8 (P:Program) (t:TypeId):Option Bool:=match P.underlying t with
 |some (.struct _)|some (.array _ _)=>some true
 |some _=>some false
 |none=>none
def oC (P:Program) (s:TypeId) (i:Nat):Option (TypeId×Nat):=match P.underlying s with
 |some (.struct fs)=>match fs[i]? with
  |some f=>match aB P f.type with
   |some (_+1)=>some (f.type,f.offset)
   |_=>none
  |none=>none
 |_=>none
theorem run_sizeOf {P:Program} {t:TypeId} {n:Nat} (h:aB P t=some n) (w:World):(sizeOf t).run P w= .ok n w:=by
 unfold aB at h;cases hi:P.info? t with
 |none=>simp[hi]at h
 |some i=>simp[hi]at h;simp[sizeOf,typeInfo,hi,h]
theorem iN {P:Program} {t:TypeId} {q:Bool} (h:m8 P t=some q) (w:World):(isAgg t).run P w= .ok q w:=by
 unfold m8 at h;cases hu:P.underlying t with
 |none=>simp[hu]at h
 |some d=>
  rw[hu]at h;simp only[isAgg,Sem.run_bind,run_underlying hu,Result.andThen_ok];cases d<;>simp_all
theorem ff {P:Program} {t:TypeId} {v:Value} (h:cL P t=some v) (w:World):(zeroValue t).run P w= .ok v w:=by
 unfold cL at h;cases hi:P.info? t with
 |none=>simp[hi]at h
 |some i=>simp[hi]at h;simp[zeroValue,typeInfo,hi,h]
def Fits (w:World) (h:Hp):Prop:=∀b o,h.f b=some o->w.heap[b]?=some o
theorem Is.fits {w:World} {h:Hp} (hi:Is w h):Fits w h:=hi.2
theorem Fits.cell {w:World} {h:Hp} (hi:Fits w h) {b i:Nat} {c:Array Value} {t:TypeId} {fz:Nat×Nat} (e:h.f b=some (.cells c t fz)):w.cell? ⟨b,i,none⟩=c[i]?:=by
 have h1:=hi b _ e;simp[World.cell?,h1]
theorem Is.lt {w:World} {h:Hp} (hi:Is w h) {b:Nat} {o:Obj} (e:h.f b=some o):b<h.n:=by
 have h1:=hi.2 b o e;rw[<-hi.1];exact(Array.getElem?_eq_some_iff.1 h1).1
theorem Is.push {w:World} {h:Hp} (hi:Is w h) (o:Obj):Is {w with heap:=w.heap.push o} ((h.put h.n o).to (h.n+1)):=by
 refine⟨by simp[hi.1,Hp.to],fun b o' e=>?_⟩;simp only[Hp.to,Hp.put]at e;split at e
 ·rename_i hb;subst hb;injection e with e;subst e;rw[<-hi.1];simp
 ·rename_i hb;have h1:=hi.lt e;have h2:=hi.2 b o' e;rw[<-hi.1]at h1;simp only[Array.getElem?_push];rw[if_neg (by omega)];exact h2
theorem bG.push (w:World) (o:Obj):bG w {w with heap:=w.heap.push o}:=⟨rfl,rfl,rfl⟩
theorem Is.set {w:World} {h:Hp} (hi:Is w h) {b:Nat} {o o':Obj} (e:h.f b=some o) {g:Array Obj} (hs:g.size=w.heap.size) (hb:g[b]?=some o') (hx:∀x,x≠b->g[x]?=w.heap[x]?):
 Is {w with heap:=g} (h.put b o'):=by
 refine⟨by simp[hs,hi.1,Hp.put],fun x o2 e2=>?_⟩;simp only[Hp.put]at e2;split at e2
 ·rename_i hx';subst hx';injection e2 with e2;subst e2;exact hb
 ·rename_i hx';exact(hx x hx').trans (hi.2 x o2 e2)
theorem Is.setCell {w:World} {h:Hp} (hi:Is w h) {b i:Nat} {c:Array Value} {t:TypeId} {fz:Nat×Nat} (e:h.f b=some (.cells c t fz)) (v:Value):
 Is (w.setCell ⟨b,i,none⟩ v) (h.put b (.cells (c.setIfInBounds i v) t fz)):=by
 have h1:=hi.2 b _ e;refine hi.set e (by simp) ?_ (fun x hx=>?_)
 ·simp[Array.getElem?_modify,h1]
 ·have:¬b=x:=fun e=>hx e.symm
  simp[Array.getElem?_modify,this]
theorem bG.setCell (w:World) (a:Addr) (v:Value):bG w (w.setCell a v):=⟨rfl,rfl,rfl⟩
theorem Is.cell {w:World} {h:Hp} (hi:Is w h) {b i:Nat} {c:Array Value} {t:TypeId} {fz:Nat×Nat} (e:h.f b=some (.cells c t fz)):w.cell? ⟨b,i,none⟩=c[i]?:=by
 have h1:=hi.2 b _ e;simp[World.cell?,h1]
theorem Is.frozen {w:World} {h:Hp} (hi:Is w h) {b i:Nat} {c:Array Value} {t:TypeId} {fz:Nat×Nat} (e:h.f b=some (.cells c t fz)) (hf:fz.2<=fz.1∨i<fz.1):w.frozen? ⟨b,i,none⟩=false:=by
 have h1:=hi.2 b _ e;obtain⟨lo,hi'⟩:=fz;simp only[World.frozen?,h1];simp only at hf;simp;omega
theorem kg (b o k:Nat):(Addr.mk b o none).add k=⟨b,o+k,none⟩:=by
 unfold Addr.add;split
 ·rename_i h;subst h;rfl
 ·rfl
def cG (c:Array Value) (o:Nat):Nat->Option (List Value)
 |0=>some []
 |n+1=>match c[o]?,cG c (o+1) n with
  |some x,some l=>some (x::l)
  |_,_=>none
def dL (c:Array Value) (o:Nat):List Value->Array Value
 | []=>c
 |x::l=>dL (c.setIfInBounds o x) (o+1) l
theorem run_loadCellsFrom {P:Program} {w:World} {b:Nat} {c:Array Value} (hc:∀i,w.cell? ⟨b,i,none⟩=c[i]?):∀(n o i:Nat) (acc:Array Value) (l:List Value),cG c (o+i) n=some l->
 (loadCellsFrom ⟨b,o,none⟩ i n acc).run P w= .ok (acc++l.toArray) w
 |0,o,i,acc,l,h=>by
  injection h with h;subst h;simp[loadCellsFrom]
 |n+1,o,i,acc,l,h=>by
  simp only[cG]at h;split at h
  ·rename_i x l' hx hl;injection h with h;subst h;have h1:=run_loadCellsFrom (P:=P) hc n o (i+1) (acc.push x) l' (by rw[<-Nat.add_assoc];exact hl);simp only[loadCellsFrom,Sem.run_bind,kg];rw[show(Go.load ⟨b,o+i,none⟩).run P w= .ok x w from by simp[Go.load,Sem.run,hc,hx]];simp only[Result.andThen_ok,h1];congr 1;apply Array.ext';simp
  ·cases h
theorem run_loadCells {P:Program} {w:World} {b:Nat} {c:Array Value} (hc:∀i,w.cell? ⟨b,i,none⟩=c[i]?) {n o:Nat} {l:List Value} (h:cG c o n=some l):
 (loadCells ⟨b,o,none⟩ n).run P w= .ok l.toArray w:=by
 have:=run_loadCellsFrom (P:=P) hc n o 0 #[] l h;simpa[loadCells]using this
def qk (fz:Nat×Nat) (o n:Nat):Prop:=fz.2<=fz.1∨o+n<=fz.1
theorem iO (o n:Nat):qk (0,0) o n:= .inl (Nat.le_refl _)
theorem iq {P:Program} {t:TypeId} {b:Nat} {fz:Nat×Nat}:∀(l:List Value) (w:World) (h:Hp) (c:Array Value) (o i:Nat),(∀x∈l,x.oneCell'=true)->o+i+l.length<=c.size->qk fz (o+i) l.length->Is w h->h.f b=some (.cells c t fz)->
 ∃w',(storeCells ⟨b,o,none⟩ l i).run P w= .ok () w'/\Is w' (h.put b (.cells (dL c (o+i) l) t fz))/\bG w w'
 | [],w,h,c,o,i,_,_,_,hi,e=>by
  refine⟨w,by simp[storeCells],?_,bG.refl w⟩
  have:h.put b (.cells (dL c (o+i) []) t fz)=h:=by
   simp only[Hp.put,dL];cases h;congr 1;funext x;split
   ·rename_i hx;subst hx;exact e.symm
   ·rfl
  rw[this];exact hi
 |x::l,w,h,c,o,i,h1,hb,hz,hi,e=>by
  simp only[List.length_cons]at hb;unfold qk at hz;simp only[List.length_cons]at hz;have hlt:o+i<c.size:=by omega
  have hs:=run_store P w ⟨b,o+i,none⟩ x .plain (h1 x (by simp));have hcell:=hi.cell (i:=o+i) e;have hfz:=hi.frozen (i:=o+i) e (by omega);rw[Array.getElem?_eq_getElem hlt]at hcell;have hi':=hi.setCell (i:=o+i) e x;obtain⟨w',hr,hw,hs'⟩:=iq l (w.setCell ⟨b,o+i,none⟩ x) _ (c.setIfInBounds (o+i) x) o (i+1) (fun y hy=>h1 y (by simp[hy])) (by simp;omega) (by unfold qk;omega) hi' (bO _ _ _);refine⟨w',?_,?_,(bG.setCell _ _ _).trans hs'⟩
  ·simp only[storeCells,Sem.run_bind,kg];rw[show(Go.store ⟨b,o+i,none⟩ x .plain).run P w= .ok () (w.setCell ⟨b,o+i,none⟩ x) from by rw[hs];simp only[stored,hcell,hfz];rfl];simpa using hr
  ·rw[yj]at hw;simpa[dL,Nat.add_assoc]using hw
abbrev KH:=Value->Hp->Prop
def Br (q:Bool) (A B:Prop):Prop:=(q=true->A)/\(q=false->B)
theorem ER {q:Bool} {A B:Prop} (h:Br q A B):(q=true/\A)∨(q=false/\B):=by
 cases q
 ·exact .inr ⟨rfl,h.2 rfl⟩
 ·exact .inl ⟨rfl,h.1 rfl⟩
def ir (P:Program) (s:Sem Value) (h:Hp) (K:KH):Prop:=∀w,Is w h->∃v w' h',s.run P w= .ok v w'/\Is w' h'/\bG w w'/\K v h'
def PG (P:Program) (s:Sem Value) (h:Hp) (K:Value->Prop):Prop:=∃v,K v/\∀w,Fits w h->s.run P w= .ok v w
theorem PG.here {P:Program} {s:Sem Value} {h:Hp} {K:Value->Prop} {v:Value} (hr:∀w,Fits w h->s.run P w= .ok v w) (hk:K v):PG P s h K:=⟨v,hk,hr⟩
theorem PG.Ac {P:Program} {s:Sem Value} {h:Hp} {K:KH} (hp:PG P s h (fun v=>K v h)):ir P s h K:=
 let⟨v,hk,hr⟩:=hp
 fun w hi=>⟨v,w,h,hr w hi.fits,hi,bG.refl w,hk⟩
def bY (op:BinOp) (k:IntKind) (x y:Int):Int:=
 k.wrap ((match op with
  | .and=>BitVec.ofInt k.bits x&&&BitVec.ofInt k.bits y
  | .or=>BitVec.ofInt k.bits x|||BitVec.ofInt k.bits y
  | .xor=>BitVec.ofInt k.bits x^^^BitVec.ofInt k.bits y
  |_=>BitVec.ofInt k.bits x&&& ~~~BitVec.ofInt k.bits y).toNat:Int)
def gy (P:Program):List Field->Option (List (Nat×Nat))
 | []=>some []
 |f::fs=>if f.name= "_" then gy P fs else if m8 P f.type=some false then(match P.underlying f.type with
  |some (.int _)=>(gy P fs).map ((0,f.offset)::·)
  |some .string=>(gy P fs).map ((1,f.offset)::·)
  |some .bool=>(gy P fs).map ((2,f.offset)::·)
  |_=>none)else none
def iu (P:Program) (t:TypeId):Option (List (Nat×Nat)):=match P.underlying t with
 |some (.struct fs)=>if P.stoodInHeld t=false/\P.eqGuardType P.depth t=false then gy P fs.toList else none
 |_=>none
def cH (xs ys:Array Value):List (Nat×Nat)->Option Bool
 | []=>some true
 |(k,o)::l=>(match xs[o]?,ys[o]? with
  |some (.int k1 a),some (.int k2 b)=>if k=0/\k1=k2 then(cH xs ys l).map (decide (a=b)&&·)else none
  |some (.string a),some (.string b)=>if k=1 then(cH xs ys l).map ((a.toList==b.toList)&&·)else none
  |some (.bool a),some (.bool b)=>if k=2 then(cH xs ys l).map ((a==b)&&·)else none
  |_,_=>none)
def uo (P:Program) (t:TypeId) (xs ys:Array Value):Option Bool:=(iu P t).bind (cH xs ys)
theorem jh {P:Program} {xs ys:Array Value} (d:Nat):∀(fs:List Field) (l:List (Nat×Nat)) (q:Bool),gy P fs=some l->cH xs ys l=some q->∀w,(Op.eqFields (d+1) xs ys fs).run P w= .ok q w
 | [],l,q,h,h2,w=>by
  injection h with h;subst h;injection h2 with h2;subst h2;simp[Op.eqFields]
 |f::fs,l,q,h,h2,w=>by
  unfold gy at h;unfold Op.eqFields;split at h
  ·rename_i hn;rw[if_neg (by simp[hn])];exact jh d fs l q h h2 w
  ·rename_i hn;rw[if_pos hn];split at h
   ·rename_i ha
    have step:∀(a b:Value) (r q':Bool) (l':List (Nat×Nat)),xs[f.offset]?=some a->ys[f.offset]?=some b->(Op.equalIn (d+1) f.type a b).run P w= .ok r w->gy P fs=some l'->cH xs ys l'=some q'->q=(r&&q')->
     (do
      let a<-part f.type xs f.offset
      let b<-part f.type ys f.offset
      let r<-Op.equalIn (d+1) f.type a b
      if(!r)=true then pure false else Op.eqFields (d+1) xs ys fs:Sem Bool).run P w= .ok q w:=fun a b r q' l' ea eb er el eq hq=>by
     subst hq;have p1:(part f.type xs f.offset).run P w= .ok a w:=by simp[part,iN ha,ea]
     have p2:(part f.type ys f.offset).run P w= .ok b w:=by simp[part,iN ha,eb]
     simp only[Sem.run_bind,p1,p2,er,Result.andThen_ok];cases r with
     |false=>simp
     |true=>simpa using jh d fs l' q' el eq w
    have fin_:∀k:Nat,(gy P fs).map ((k,f.offset)::·)=some l->∃l',gy P fs=some l'/\l=(k,f.offset)::l':=fun k h=>by
     simp only[Option.map_eq_some_iff]at h;obtain⟨l',e1,e2⟩:=h;exact⟨l',e1,e2.symm⟩
    split at h
    ·rename_i k hu;obtain⟨l',e1,rfl⟩:=fin_ 0 h;simp only[cH]at h2;split at h2
     ·rename_i ka a kb b ea eb;split at h2
      ·rename_i hk;obtain⟨_,rfl⟩:=hk;simp only[Option.map_eq_some_iff]at h2;obtain⟨q',e2,e3⟩:=h2;exact step _ _ _ q' l' ea eb (run_equalIn_int w d f.type ka k a b hu) e1 e2 (by rw[<-e3];by_cases e:a=b<;>simp[e])
      ·cases h2
     ·split at h2
      ·omega
      ·cases h2
     ·split at h2
      ·omega
      ·cases h2
     ·cases h2
    ·rename_i hu;obtain⟨l',e1,rfl⟩:=fin_ 1 h;simp only[cH]at h2;split at h2
     ·split at h2
      ·omega
      ·cases h2
     ·rename_i a b ea eb;split at h2
      ·skip
       simp only[Option.map_eq_some_iff]at h2;obtain⟨q',e2,e3⟩:=h2;exact step _ _ _ q' l' ea eb (run_equalIn_string w d f.type a b hu) e1 e2 (e3.symm)
      ·cases h2
     ·split at h2
      ·omega
      ·cases h2
     ·cases h2
    ·rename_i hu;obtain⟨l',e1,rfl⟩:=fin_ 2 h;simp only[cH]at h2;split at h2
     ·split at h2
      ·omega
      ·cases h2
     ·split at h2
      ·omega
      ·cases h2
     ·rename_i a b ea eb;split at h2
      ·skip
       simp only[Option.map_eq_some_iff]at h2;obtain⟨q',e2,e3⟩:=h2;exact step _ _ _ q' l' ea eb (run_equalIn_bool' w d f.type a b hu) e1 e2 (e3.symm)
      ·cases h2
     ·cases h2
    ·cases h
   ·cases h
def kh (P:Program) (op:BinOp) (t:TypeId) (x y:Value) (K:Value->Prop):Prop:=
 match x,y with
 | .int k a,.int k' b=>(match op with
  | .shl=>0<=b/\K (.int k (k.wrap (a*2^min b.toNat k.bits)))
  | .shr=>0<=b/\K (.int k (a.fdiv (2^min b.toNat k.bits)))
  | .add=>k=k'/\K (.int k (k.wrap (a+b)))
  | .sub=>k=k'/\K (.int k (k.wrap (a-b)))
  | .mul=>k=k'/\K (.int k (k.wrap (a*b)))
  | .quo=>k=k'/\b≠0/\K (.int k (k.wrap (a.tdiv b)))
  | .rem=>k=k'/\b≠0/\K (.int k (a.tmod b))
  | .and=>k=k'/\K (.int k (bY .and k a b))
  | .or=>k=k'/\K (.int k (bY .or k a b))
  | .xor=>k=k'/\K (.int k (bY .xor k a b))
  | .andNot=>k=k'/\K (.int k (bY .andNot k a b))
  | .eql=>k=k'/\K (.bool (decide (a=b)))
  | .neq=>k=k'/\K (.bool (decide (a≠b)))
  | .lss=>k=k'/\K (.bool (decide (a<b)))
  | .leq=>k=k'/\K (.bool (decide (a<=b)))
  | .gtr=>k=k'/\K (.bool (decide (b<a)))
  | .geq=>k=k'/\K (.bool (decide (b<=a))))
 | .string a,.string b=>(match op with
  | .add=>a.size+b.size<=9223372036854775807/\K (.string (a++b))
  | .eql=>K (.bool (a.toList==b.toList))
  | .neq=>K (.bool (!(a.toList==b.toList)))
  | .lss=>K (.bool (Op.bytesLess a.toList b.toList))
  | .leq=>K (.bool (Op.bytesLess a.toList b.toList||a.toList==b.toList))
  | .gtr=>K (.bool (!(Op.bytesLess a.toList b.toList||a.toList==b.toList)))
  | .geq=>K (.bool (!(Op.bytesLess a.toList b.toList)))
  |_=>False)
 | .bool a,.bool b=>(match op with
  | .eql=>P.underlying t=some .bool/\K (.bool (a==b))
  | .neq=>P.underlying t=some .bool/\K (.bool (!(a==b)))
  |_=>False)
 | .pointer p,.pointer none=>(match op,P.underlying t with
  | .eql,some (.pointer _)=>K (.bool p.isNone)
  | .neq,some (.pointer _)=>K (.bool (!p.isNone))
  |_,_=>False)
 | .slice p _ _,.slice none _ _=>(match op,P.underlying t with
  | .eql,some (.slice _)=>K (.bool p.isNone)
  | .neq,some (.slice _)=>K (.bool (!p.isNone))
  |_,_=>False)
 | .agg xs,.agg ys=>(match op,uo P t xs ys with
  | .eql,some q=>K (.bool q)
  | .neq,some q=>K (.bool (!q))
  |_,_=>False)
 |_,_=>False
theorem run_equal_bool {P:Program} {t:TypeId} (hu:P.underlying t=some .bool) (a b:Bool) (w:World):(Op.equal t (.bool a) (.bool b)).run P w= .ok (a==b) w:=by
 have h:∀d,(Op.equalIn (d+1) t (.bool a) (.bool b)).run P w= .ok (a==b) w:=fun d=>by simp[Op.equalIn,run_underlying hu]
 exact h 9999
theorem o9 {P:Program} {t e:TypeId} (hu:P.underlying t=some (.pointer e)) (p:Option Addr) (w:World):(Op.equal t (.pointer p) (.pointer none)).run P w= .ok p.isNone w:=by
 have h:∀d,(Op.equalIn (d+1) t (.pointer p) (.pointer none)).run P w= .ok p.isNone w:=fun d=>by cases p<;>simp[Op.equalIn,run_underlying hu]
 exact h 9999
theorem m9 {P:Program} {t e:TypeId} (hu:P.underlying t=some (.slice e)) (p:Option Addr) (n c n' c':Nat) (w:World):(Op.equal t (.slice p n c) (.slice none n' c')).run P w= .ok p.isNone w:=by
 have h:∀d,(Op.equalIn (d+1) t (.slice p n c) (.slice none n' c')).run P w= .ok p.isNone w:=fun d=>by cases p<;>simp[Op.equalIn,run_underlying hu]
 exact h 9999
theorem CU {P:Program} {op:BinOp} {t:TypeId} {ox oy:Operand} {x y:Value} {h:Hp} {K:Value->Prop} (hb:kh P op t x y K):
 PG P (do eqGuard op t ox oy x y;binOp op t x y) h K:=by
 unfold kh at hb;split at hb
 ·rename_i k a k' b;cases op<;>simp only at hb
  case shl=>exact .here (fun w _=>by simp[eqGuard,binOp,Op.shift,Int.not_lt.2 hb.1]) hb.2
  case shr=>exact .here (fun w _=>by simp[eqGuard,binOp,Op.shift,Int.not_lt.2 hb.1]) hb.2
  all_goals obtain⟨rfl,hb⟩:=hb
  case quo=>exact .here (fun w _=>by simp[eqGuard,binOp,Op.intDiv,hb.1]) hb.2
  case rem=>exact .here (fun w _=>by simp[eqGuard,binOp,Op.intDiv,hb.1]) hb.2
  all_goals refine .here (fun w _=>?_) hb
  all_goals simp[eqGuard,binOp,Op.intArith,Op.intBits,bY,Op.intCmp,GT.gt,GE.ge]
  case neq=>by_cases e:a=b<;>simp[e,bne]
  all_goals(by_cases e:a=b<;>simp[e])
 ·rename_i a b;cases op<;>simp only at hb
  case add=>
   have h2:¬(((a.size+b.size:Nat):Int)>IntKind.i64.max):=by
    have:IntKind.i64.max=9223372036854775807:=by decide
    omega
   exact .here (fun w _=>by simp only[eqGuard,binOp,Op.stringOp,h2,if_false];simp) hb.2
  all_goals first|exact hb.elim|exact .here (fun w _=>by simp[eqGuard,binOp,Op.stringOp]) hb
 ·rename_i a b;cases op<;>simp only at hb
  case eql=>exact .here (fun w _=>by simp[eqGuard,binOp,run_equal_bool hb.1]) hb.2
  case neq=>exact .here (fun w _=>by simp[eqGuard,binOp,run_equal_bool hb.1]) hb.2
 ·rename_i p;split at hb
  ·rename_i hu;exact .here (fun w _=>by simp[eqGuard,binOp,o9 hu]) hb
  ·rename_i hu;exact .here (fun w _=>by simp[eqGuard,binOp,o9 hu]) hb
  ·exact hb.elim
 ·rename_i p n c n' c';split at hb
  ·rename_i hu;exact .here (fun w _=>by simp[eqGuard,binOp,m9 hu]) hb
  ·rename_i hu;exact .here (fun w _=>by simp[eqGuard,binOp,m9 hu]) hb
  ·exact hb.elim
 ·rename_i xs ys
  have key:∀q,uo P t xs ys=some q->(∀w,(Op.equalIn 10000 t (.agg xs) (.agg ys)).run P w= .ok q w)/\P.eqGuardType P.depth t=false:=fun q hq=>by
   simp only[uo,Option.bind_eq_some_iff]at hq;obtain⟨l,hl,hq⟩:=hq;unfold iu at hl;split at hl
   ·rename_i fs hu;split at hl
    ·rename_i hg;have hf:P.fieldsOf t=fs:=by simp[Program.fieldsOf,hu]
     refine⟨fun w=>?_,hg.2⟩;rw[run_equalIn_struct w 9999 t xs ys (by rw[hf];exact hu) hg.1,hf];exact jh 9998 _ l q hl hq w
    ·cases hl
   ·cases hl
  split at hb
  ·rename_i q hq;obtain⟨h1,h2⟩:=key q hq;exact .here (fun w _=>by simp only[Sem.run_bind,run_eqGuard_agg w _ t ox oy xs ys h2,Result.andThen_ok,run_eql_struct,h1 w]) hb
  ·rename_i q hq;obtain⟨h1,h2⟩:=key q hq;exact .here (fun w _=>by simp only[Sem.run_bind,run_eqGuard_agg w _ t ox oy xs ys h2,Result.andThen_ok,run_neq_struct,h1 w]) hb
  ·exact hb.elim
 ·exact hb.elim
def aun (op:UnOp) (x:Value) (K:Value->Prop):Prop:=
 match op,x with
 | .not,.bool b=>K (.bool (!b))
 | .neg,.int k n=>K (.int k (k.wrap (0-n)))
 | .xor,.int k n=>K (.int k (bY .xor k (if k.signed then-1 else k.max) n))
 |_,_=>False
theorem G1 {P:Program} {op:UnOp} {x:Value} {h:Hp} {K:Value->Prop} (hb:aun op x K):PG P (Op.unary op x) h K:=by
 unfold aun at hb;split at hb
 ·exact .here (fun w _=>by simp[Op.unary]) hb
 ·exact .here (fun w _=>by simp[Op.unary,Op.intArith]) hb
 ·exact .here (fun w _=>by simp[Op.unary,Op.intBits,bY]) hb
 ·exact hb.elim
def ki (P:Program) (t:TypeId) (a:Value) (h:Hp) (K:Value->Prop):Prop:=
 match a with
 | .pointer (some ⟨b,o,none⟩)=>(match h.f b with
  |some (.cells c _ _)=>(match m8 P t with
   |some false=>(match c[o]? with
    |some v=>K v
    |none=>False)
   |some true=>(match aB P t with
    |some n=>(match cG c o n with
     |some l=>K (.agg l.toArray)
     |none=>False)
    |none=>False)
   |none=>False)
  |_=>False)
 |_=>False
theorem sS {P:Program} {t:TypeId} {a:Value} {h:Hp} {K:Value->Prop} (hk:ki P t a h K):PG P (Instr.loadAt t a) h K:=by
 unfold ki at hk;split at hk
 ·rename_i b o;split at hk
  ·rename_i c e fz he;split at hk
   ·rename_i ha;split at hk
    ·rename_i v hv;refine .here (fun w hi=>?_) hk;have hc:=(hi.cell (i:=o) he).trans hv;simp[Instr.loadAt,Instr.sureAddr,loadVar,iN ha,Go.load,Sem.run,hc]
    ·exact hk.elim
   ·rename_i ha;split at hk
    ·rename_i n hn;split at hk
     ·rename_i l hl;refine .here (fun w hi=>?_) hk;simp[Instr.loadAt,Instr.sureAddr,loadVar,iN ha,run_sizeOf hn,run_loadCells (P:=P) (w:=w) (fun i=>hi.cell (i:=i) he) hl]
     ·exact hk.elim
    ·exact hk.elim
   ·exact hk.elim
  ·exact hk.elim
 ·exact hk.elim
def ny (P:Program) (t:TypeId) (a v:Value) (h:Hp) (K:KH):Prop:=
 match a with
 | .pointer (some ⟨b,o,none⟩)=>(match h.f b with
  |some (.cells c e fz)=>aB P t=some v.cells.size/\(v.cells.toList.all Value.oneCell'=true)/\o+v.cells.size<=c.size/\qk fz o v.cells.size/\K undef (h.put b (.cells (dL c o v.cells.toList) e fz))
  |_=>False)
 |_=>False
theorem yk {P:Program} {t:TypeId} {a v:Value} {h:Hp} {K:KH} (hk:ny P t a v h K) (w:World) (hi:Is w h):
 ∃w' h',(Instr.storeAt t a v).run P w= .ok () w'/\Is w' h'/\bG w w'/\K undef h':=by
 unfold ny at hk;split at hk
 ·rename_i b o;split at hk
  ·rename_i c e fz he;obtain⟨hs,h1,hb,hf,hk⟩:=hk;obtain⟨w',hr,hi',hsame⟩:=iq (P:=P) v.cells.toList w h c o 0 (fun x hx=>List.all_eq_true.1 h1 x hx) (by simpa using hb) (by simpa using hf) hi he;refine⟨w',_,?_,hi',hsame,by simpa using hk⟩;simp[Instr.storeAt,Instr.sureAddr,storeVar,run_sizeOf hs,hr]
  ·exact hk.elim
 ·exact hk.elim
def fw (P:Program) (s:TypeId) (a:Value) (i:Nat) (K:Value->Prop):Prop:=
 match a,oC P s i with
 | .pointer (some ⟨b,o,none⟩),some (_,off)=>K (.pointer (some ⟨b,o+off,none⟩))
 |_,_=>False
theorem qn {P:Program} {s t:TypeId} {i off:Nat} (h:oC P s i=some (t,off)):
 ∃fs f n,P.underlying s=some (.struct fs)/\fs[i]?=some f/\f.type=t/\f.offset=off/\aB P t=some (n+1):=by
 unfold oC at h;split at h
 ·rename_i fs hu;split at h
  ·rename_i f hf;split at h
   ·rename_i n hn;simp only[Option.some.injEq,Prod.mk.injEq]at h;obtain⟨h1,h2⟩:=h;subst h1 h2;exact⟨fs,f,n,hu,hf,rfl,rfl,hn⟩
   ·cases h
  ·cases h
 ·cases h
theorem rB {P:Program} {s:TypeId} {a:Value} {i:Nat} {h:Hp} {K:Value->Prop} (hk:fw P s a i K):PG P (Instr.fieldAt s a i) h K:=by
 unfold fw at hk;split at hk
 ·rename_i b o t off ht;obtain⟨fs,f,n,hu,hf,rfl,rfl,hn⟩:=qn ht;refine .here (fun w hi=>?_) hk;simp[Instr.fieldAt,run_underlying hu,hf,Instr.sureAddr,fieldPlace,run_sizeOf hn,kg]
 ·exact hk.elim
def mo (P:Program) (t:TypeId) (cs:Array Value) (off:Nat) (K:Value->Prop):Prop:=
 match m8 P t with
 |some false=>(match cs[off]? with
  |some v=>K v
  |none=>False)
 |some true=>(match aB P t with
  |some n=>K (.agg (cs.extract off (off+n)))
  |none=>False)
 |none=>False
theorem sT {P:Program} {t:TypeId} {cs:Array Value} {off:Nat} {h:Hp} {K:Value->Prop} (hk:mo P t cs off K):PG P (part t cs off) h K:=by
 unfold mo at hk;split at hk
 ·rename_i ha;split at hk
  ·rename_i v hv;exact .here (fun w _=>by simp[part,iN ha,hv]) hk
  ·exact hk.elim
 ·rename_i ha;split at hk
  ·rename_i n hn;exact .here (fun w _=>by simp[part,iN ha,run_sizeOf hn]) hk
  ·exact hk.elim
 ·exact hk.elim
def pA (P:Program) (s:TypeId) (x:Value) (i:Nat) (K:Value->Prop):Prop:=
 match x,oC P s i with
 | .agg cs,some (t,off)=>mo P t cs off K
 |_,_=>False
theorem yl {P:Program} {s:TypeId} {x:Value} {i:Nat} {h:Hp} {K:Value->Prop} (hk:pA P s x i K):PG P (Instr.field s x i) h K:=by
 unfold pA at hk;split at hk
 ·rename_i cs t off ht;obtain⟨fs,f,n,hu,hf,rfl,rfl,hn⟩:=qn ht;obtain⟨v,hv,hr⟩:=sT (h:=h) hk;exact⟨v,hv,fun w hi=>by simpa[Instr.field,run_underlying hu,hf,asAgg]using hr w hi⟩
 ·exact hk.elim
def cm (P:Program) (t:TypeId) (x ix:Value) (K:Value->Prop):Prop:=
 match ix with
 | .int _ i=>(match P.underlying t,x with
  |some (.slice e),.slice (some ⟨b,o,none⟩) len _=>0<=i/\i<(len:Int)/\(match aB P e with
   |some k=>K (.pointer (some ⟨b,o+i.toNat*k,none⟩))
   |none=>False)
  |some (.array len e),.pointer (some ⟨b,o,none⟩)=>0<=i/\i<(len:Int)/\(match aB P e with
   |some k=>K (.pointer (some ⟨b,o+i.toNat*k,none⟩))
   |none=>False)
  |_,_=>False)
 |_=>False
theorem rC {P:Program} {t:TypeId} {x ix:Value} {h:Hp} {K:Value->Prop} (hk:cm P t x ix K):PG P (Instr.indexAt t x ix) h K:=by
 unfold cm at hk;split at hk
 ·rename_i kk i;split at hk
  ·rename_i e b o len cap hu;obtain⟨h0,h1,hk⟩:=hk;split at hk
   ·rename_i k hn;exact .here (fun w _=>by simp[Instr.indexAt,asIntOf,run_underlying hu,h0,h1,run_sizeOf hn,kg]) hk
   ·exact hk.elim
  ·rename_i len e b o hu;obtain⟨h0,h1,hk⟩:=hk;split at hk
   ·rename_i k hn;exact .here (fun w _=>by simp[Instr.indexAt,asIntOf,run_underlying hu,h0,h1,run_sizeOf hn,kg,Instr.sureAddr]) hk
   ·exact hk.elim
  ·exact hk.elim
 ·exact hk.elim
def jD (P:Program) (t:TypeId) (x ix:Value) (K:Value->Prop):Prop:=
 match ix with
 | .int _ i=>(match P.underlying t,x with
  |some (.array len e),.agg cs=>0<=i/\i<(len:Int)/\(match aB P e with
   |some k=>mo P e cs (i.toNat*k) K
   |none=>False)
  |some .string,.string s=>0<=i/\(match s.toList[i.toNat]? with
   |some b=>K (.int .u8 b.toNat)
   |none=>False)
  |_,_=>False)
 |_=>False
theorem uq (s:ByteArray) (i:Nat):s[i]?=s.toList[i]?:=by
 rw[ByteArray.toList_eq];by_cases hlt:i<s.size
 ·rw[getElem?_pos s i hlt,List.getElem?_eq_getElem (by simpa using hlt)];rfl
 ·rw[getElem?_neg s i hlt,List.getElem?_eq_none (by simpa using hlt)]
theorem ym {P:Program} {t:TypeId} {x ix:Value} {h:Hp} {K:Value->Prop} (hk:jD P t x ix K):PG P (Instr.index t x ix) h K:=by
 unfold jD at hk;split at hk
 ·rename_i kk i;split at hk
  ·rename_i len e cs hu;obtain⟨h0,h1,hk⟩:=hk;split at hk
   ·rename_i k hn;obtain⟨v,hv,hr⟩:=sT (h:=h) hk;exact⟨v,hv,fun w hi=>by simpa[Instr.index,asIntOf,run_underlying hu,h0,h1,run_sizeOf hn]using hr w hi⟩
   ·exact hk.elim
  ·rename_i s hu;obtain⟨h0,hk⟩:=hk;split at hk
   ·rename_i b hb;exact .here (fun w _=>by simp[Instr.index,asIntOf,run_underlying hu,h0,uq,hb]) hk
   ·exact hk.elim
  ·exact hk.elim
 ·exact hk.elim
def kj (x:Value) (i:Nat) (K:Value->Prop):Prop:=
 match x with
 | .tuple vs=>(match vs[i]? with
  |some v=>K v
  |none=>False)
 |_=>False
theorem ur {P:Program} {x:Value} {i:Nat} {h:Hp} {K:Value->Prop} (hk:kj x i K):PG P (Instr.extract x i) h K:=by
 unfold kj at hk;split at hk
 ·split at hk
  ·rename_i v hv;exact .here (fun w _=>by simp[Instr.extract,hv]) hk
  ·exact hk.elim
 ·exact hk.elim
def G2 (e:TypeId) (cs:Array Value) (h:Hp) (K:KH):Prop:=K (.pointer (some ⟨h.n,0,none⟩)) ((h.put h.n (.cells cs e (0,0))).to (h.n+1))
theorem kl {P:Program} (e:TypeId) (cs:Array Value) {w:World} {h:Hp} (hi:Is w h):(newRow e cs).run P w= .ok ⟨h.n,0,none⟩ {w with heap:=w.heap.push (.cells cs e (0,0))}:=by
 simp only[newRow,newObj,Sem.run_bind];rw[show(Sem.new (.cells cs e) .pure).run P w= .ok w.heap.size {w with heap:=w.heap.push (.cells cs e (0,0))} from by simp[Sem.run]];simp[hi.1]
theorem uu {P:Program} {e:TypeId} {cs:Array Value} {h:Hp} {K:KH} (hk:G2 e cs h K):ir P (do pure (.pointer (some (<-newRow e cs)))) h K:=fun w hi=>
 ⟨_,_,_,by simp only[Sem.run_bind,kl e cs hi];rfl,hi.push _,bG.push _ _,hk⟩
def pB (P:Program) (e:TypeId) (h:Hp) (K:KH):Prop:=
 match cL P e with
 |some z=>G2 e z.cells h K
 |none=>False
theorem yn {P:Program} {e:TypeId} {h:Hp} {K:KH} (hk:pB P e h K):ir P (Instr.alloc e true (.tuple #[])) h K:=by
 unfold pB at hk;split at hk
 ·rename_i z hz;intro w hi;obtain⟨v,w',h',hr,r⟩:=uu hk w hi;exact⟨v,w',h',by simpa[Instr.alloc,ff hz,newVar]using hr,r⟩
 ·exact hk.elim
def qo (place:Nat->Option (Nat×Nat)) (cells:Array Value):List (Nat×Value)->Option (Array Value)
 | []=>some cells
 |(i,v)::rest=>(match place i with
  |none=>none
  |some (off,size)=>if v.cells.size=size/\off+size<=cells.size then qo place (dL cells off v.cells.toList) rest else none)
theorem wY:∀(l:List Value) (c:Array Value) (o k:Nat),(l.zipIdx k).foldl (fun cs (x:Value×Nat)=>cs.setIfInBounds (o+x.2) x.1) c=dL c (o+k) l
 | [],c,o,k=>rfl
 |x::l,c,o,k=>by
  simp only[List.zipIdx_cons,List.foldl_cons,dL];rw[wY l _ o (k+1)];rfl
theorem qp (place:Nat->Option (Nat×Nat)):∀(l:List (Nat×Value)) (cells r:Array Value),qo place cells l=some r->Instr.fill place cells l=some r
 | [],cells,r,h=>h
 |(i,v)::l,cells,r,h=>by
  simp only[qo]at h;split at h
  ·cases h
  ·rename_i off size hp;split at h
   ·rename_i hc;have ih:=qp place l _ r h;simp only[Instr.fill,hp];rw[if_neg (by rw[hc.1];simp;omega)];have:=wY v.cells.toList cells off 0;simp only[Nat.add_zero]at this;rw[<-this]at ih
    have e:v.cells.zipIdx.foldl (fun cs (x:Value×Nat)=>cs.setIfInBounds (off+x.2) x.1) cells=v.cells.toList.zipIdx.foldl (fun cs (x:Value×Nat)=>cs.setIfInBounds (off+x.2) x.1) cells:=by
     rw[<-Array.foldl_toList];simp
    rw[<-e]at ih;exact ih
   ·cases h
def iv (P:Program) (fs:Array Field) (i:Nat):Option (Nat×Nat):=match fs[i]? with
 |some f=>(aB P f.type).map fun s=>(f.offset,s)
 |none=>none
def oD (P:Program) (t:TypeId) (parts:List (Nat×Value)):Option (Array Value):=
 match cL P t with
 |some z=>(match P.underlying t with
  |some (.struct fs)=>if(fs.toList.all fun f=>(aB P f.type).isSome)=true then qo (iv P fs) z.cells parts else none
  |some (.array _ e)=>(match aB P e with
   |some s=>qo (fun i=>some (i*s,s)) z.cells parts
   |none=>none)
  |_=>none)
 |none=>none
theorem run_places {P:Program} (w:World):∀(l:List Field),(l.all fun f=>(aB P f.type).isSome)=true->
 (l.mapM (fun f=>(do pure (f.offset,<-sizeOf f.type):Sem (Nat×Nat)))).run P w= .ok (l.map fun f=>(f.offset,(aB P f.type).getD 0)) w
 | [],_=>by simp
 |f::l,h=>by
  simp only[List.all_cons,Bool.and_eq_true]at h;obtain⟨n,hn⟩:=Option.isSome_iff_exists.1 h.1;rw[List.mapM_cons];simp only[Sem.run_bind,run_sizeOf hn,Result.andThen_ok,Sem.run_pure,run_places w l h.2,List.map_cons,hn,Option.getD_some]
theorem wI {P:Program} {t:TypeId} {parts:Array (Nat×Value)} {r:Array Value} (hb:oD P t parts.toList=some r) (w:World):(Instr.build t parts).run P w= .ok (.agg r) w:=by
 unfold oD at hb;split at hb
 ·rename_i z hz;split at hb
  ·rename_i fs hu;split at hb
   ·rename_i hall;have hp:=run_places (P:=P) w fs.toList hall
    have hm:(fs.mapM (fun f=>(do pure (f.offset,<-sizeOf f.type):Sem (Nat×Nat)))).run P w= .ok (fs.map fun f=>(f.offset,(aB P f.type).getD 0)) w:=by
     rw[Array.mapM_eq_mapM_toList,Sem.run_map,hp];simp only[Result.andThen_ok];congr 1;apply Array.ext';simp
    have hpl:(fun i=>(fs.map fun f=>(f.offset,(aB P f.type).getD 0))[i]?)=iv P fs:=by
     funext i;simp only[iv,Array.getElem?_map];cases hf:fs[i]? with
     |none=>rfl
     |some f=>
      have:(aB P f.type).isSome=true:=List.all_eq_true.1 hall f (by simpa using Array.mem_of_getElem? hf);obtain⟨n,hn⟩:=Option.isSome_iff_exists.1 this;simp[hn]
    have hfill:=qp _ _ _ _ hb;rw[<-hpl]at hfill;simp only[Instr.build,Sem.run_bind,ff hz,Result.andThen_ok,run_underlying hu,hm,hfill];rfl
   ·cases hb
  ·rename_i n e hu;split at hb
   ·rename_i s hs;have hfill:=qp _ _ _ _ hb;simp only[Instr.build,Sem.run_bind,ff hz,Result.andThen_ok,run_underlying hu,run_sizeOf hs,hfill];rfl
   ·cases hb
  ·cases hb
 ·cases hb
def cI (z:List Value):Nat->List Value
 |0=> []
 |n+1=>z++cI z n
theorem sU (z:List Value):∀n,cI z (n+1)=cI z n++z
 |0=>by simp[cI]
 |n+1=>by
  show z++cI z (n+1)=(z++cI z n)++z;rw[sU z n,List.append_assoc]
theorem wZ (z:Array Value):∀n,(List.range (n*z.size)).map (fun i=>z[i%z.size]!)=cI z.toList n
 |0=>by simp[cI]
 |n+1=>by
  rw[sU,<-wZ z n,Nat.succ_mul,List.range_add,List.map_append,List.map_map];congr 1;apply List.ext_getElem
  ·simp
  ·intro i h1 h2;have hi:i<z.size:=by simpa using h1
   simp[Nat.mod_eq_of_lt hi,hi]
theorem iP (z:Array Value) (n:Nat):madeCells z (n*z.size)=(cI z.toList n).toArray:=by
 rw[<-wZ];unfold madeCells;apply Array.ext';simp
def dB (P:Program) (t:TypeId) (len:Nat) (parts:List (Nat×Value)):Option (TypeId×Array Value):=
 match P.underlying t with
 |some (.slice e)=>(match aB P e,cL P e with
  |some s,some z=>if len*s<=16777216/\z.cells.size=s then(qo (fun i=>some (i*s,s)) (cI z.cells.toList len).toArray parts).map (e,·)else none
  |_,_=>none)
 |_=>none
theorem pC {P:Program} {t:TypeId} {len:Nat} {parts:Array (Nat×Value)} {e:TypeId} {r:Array Value} (hb:dB P t len parts.toList=some (e,r)) {h:Hp} {K:KH}
 (hk:K (.slice (some ⟨h.n,0,none⟩) len len) ((h.put h.n (.cells r e (0,0))).to (h.n+1))):ir P (Instr.buildSlice t len parts) h K:=by
 unfold dB at hb;split at hb
 ·rename_i e' hu;split at hb
  ·rename_i s z hs hz;split at hb
   ·rename_i hle;simp only[Option.map_eq_some_iff,Prod.mk.injEq]at hb;obtain⟨r',hf,rfl,rfl⟩:=hb;have hfill:=qp _ _ _ _ hf;intro w hi;refine⟨_,_,_,?_,hi.push _,bG.push _ _,hk⟩;obtain⟨hle,hsz⟩:=hle;simp only[Instr.buildSlice,Sem.run_bind,run_underlying hu,Result.andThen_ok,run_sizeOf hs];rw[if_neg (by omega)];rw[<-iP,hsz]at hfill;by_cases h0:len*s=0
    ·rw[h0]at hfill⊢;have e0:madeCells z.cells 0= #[]:=by simp[madeCells,Array.range_zero']
     rw[e0]at hfill;simp only[if_true,Sem.run_bind,Sem.run_pure,Result.andThen_ok,Array.range_zero',Array.map_empty];rw[hfill];simp only[Sem.run_bind,kl e' r' hi,Result.andThen_ok];rfl
    ·simp only[madeCells]at hfill;simp only[h0,if_false,Sem.run_bind,Sem.run_pure,ff hz,Result.andThen_ok];rw[hfill];simp only[Sem.run_bind,kl e' r' hi,Result.andThen_ok];rfl
   ·cases hb
  ·cases hb
 ·cases hb
def G3 (P:Program) (op:BinOp) (t:TypeId) (a b:Addr) (h:Hp) (K:Value->Prop):Prop:=
 match op,P.underlying t with
 | .eql,some (.pointer e)=>(∃k,aB P e=some (k+1))/\(a=b∨(∃ca ta cb tb,h.f a.block=some (.cells ca ta (0,0))/\h.f b.block=some (.cells cb tb (0,0))))/\K (.bool (decide (a=b)))
 | .neq,some (.pointer e)=>(∃k,aB P e=some (k+1))/\(a=b∨(∃ca ta cb tb,h.f a.block=some (.cells ca ta (0,0))/\h.f b.block=some (.cells cb tb (0,0))))/\K (.bool (!decide (a=b)))
 |_,_=>False
def jn (P:Program) (op:BinOp) (t:TypeId) (x y:Value) (h:Hp) (K:Value->Prop):Prop:=
 match x,y with
 | .pointer (some a),.pointer (some b)=>G3 P op t a b h K
 |x,y=>kh P op t x y K
theorem tC {P:Program} {a b:Addr} {w:World} {h:Hp} (hi:Fits w h) (hc:a=b∨(∃ca ta cb tb,h.f a.block=some (.cells ca ta (0,0))/\h.f b.block=some (.cells cb tb (0,0)))):(sameAddr a b).run P w= .ok (decide (a=b)) w:=by
 by_cases e:a=b
 ·subst e;simp[sameAddr]
 ·obtain⟨ca,ta,cb,tb,h1,h2⟩:=hc.resolve_left e;rw[run_sameAddr_other w e (hi _ _ h1) (hi _ _ h2)];simp[e]
theorem Ad {P:Program} {op:BinOp} {t:TypeId} {ox oy:Operand} {x y:Value} {h:Hp} {K:Value->Prop} (hb:jn P op t x y h K):
 PG P (do eqGuard op t ox oy x y;binOp op t x y) h K:=by
 unfold jn at hb;split at hb
 ·rename_i a b
  have key:∀{e k},P.underlying t=some (.pointer e)->aB P e=some (k+1)->(a=b∨(∃ca ta cb tb,h.f a.block=some (.cells ca ta (0,0))/\h.f b.block=some (.cells cb tb (0,0))))->∀w,Fits w h->(Op.equal t (.pointer (some a)) (.pointer (some b))).run P w= .ok (decide (a=b)) w:=fun hu hs hc w hw=>by
   have h:∀d,(Op.equalIn (d+1) t (.pointer (some a)) (.pointer (some b))).run P w= .ok (decide (a=b)) w:=fun d=>by
    simp[Op.equalIn,run_underlying hu,run_sizeOf hs,tC hw hc]
   exact h 9999
  unfold G3 at hb;split at hb
  ·rename_i e hu;obtain⟨⟨k,hs⟩,hc,hk⟩:=hb;exact .here (fun w hw=>by simp[eqGuard,binOp,key hu hs hc w hw]) hk
  ·rename_i e hu;obtain⟨⟨k,hs⟩,hc,hk⟩:=hb;exact .here (fun w hw=>by simp[eqGuard,binOp,key hu hs hc w hw]) hk
  ·exact hb.elim
 ·exact CU hb
def bytesOf:List Value->Option (List UInt8)
 | []=>some []
 | .int .u8 n::l=>if 0<=n/\n<256 then(bytesOf l).map (UInt8.ofNat n.toNat::·)else none
 |_=>none
def dZ (s:ByteArray):Array Value:=s.data.map fun b=> .int .u8 b.toNat
theorem mq:∀(l:List Value) (bs:List UInt8),bytesOf l=some bs->∃ns:List Int,l=ns.map (Value.int .u8)/\bs=ns.map fun n=>UInt8.ofNat n.toNat
 | [],bs,h=>by injection h with h;subst h;exact⟨[],rfl,rfl⟩
 |v::l,bs,h=>by
  unfold bytesOf at h;split at h
  ·injection h with h;subst h;rename_i e;cases e
  ·rename_i n l' e;injection e with e1 e2;subst e1 e2;split at h
   ·simp only[Option.map_eq_some_iff]at h;obtain⟨bs',hb,rfl⟩:=h;obtain⟨ns,rfl,rfl⟩:=mq l bs' hb;exact⟨n::ns,rfl,rfl⟩
   ·cases h
  ·cases h
def gX (P:Program) (src dst:TypeId) (x:Value) (h:Hp) (K:KH):Prop:=
 match x with
 | .int _ n=>(match P.underlying src,P.underlying dst with
  |some (.int _),some (.int k)=>K (.int k (k.wrap n)) h
  |_,_=>False)
 | .string s=>(match P.underlying src,P.underlying dst with
  |some .string,some .string=>K (.string s) h
  |some .string,some (.slice e)=>P.underlying e=some (.int .u8)/\∀cap,s.size<=cap->
   K (.slice (some ⟨h.n,0,none⟩) s.size cap) ((h.put h.n (.cells (dZ s++Array.replicate (cap-s.size) (.int .u8 0)) e (cap,cap+1))).to (h.n+1))
  |_,_=>False)
 | .slice base len _=>(match P.underlying src,P.underlying dst with
  |some (.slice e),some .string=>P.underlying e=some (.int .u8)/\(match base with
   |none=>K (.string ByteArray.empty) h
   |some ⟨b,o,none⟩=>(match h.f b with
    |some (.cells c _ _)=>(match(cG c o len).bind bytesOf with
     |some bs=>K (.string ⟨bs.toArray⟩) h
     |none=>False)
    |_=>False)
   |_=>False)
  |_,_=>False)
 |_=>False
theorem Is.freeze {w:World} {h:Hp} {b n:Nat} {c:Array Value} {t:TypeId} (hi:Is w h) (e:h.f b=some (.cells c t (0,0))):
 Is (w.freeze ⟨b,n,none⟩ 1) (h.put b (.cells c t (n,n+1))):=by
 have h1:=hi.2 b _ e;unfold World.freeze;rw[if_neg (by omega)];refine hi.set e (by simp) ?_ (fun x hx=>?_)
 ·simp[Array.getElem?_modify,h1]
 ·have:¬b=x:=fun e=>hx e.symm
  simp[Array.getElem?_modify,this]
theorem Ae {P:Program} {src dst:TypeId} {x:Value} {h:Hp} {K:KH} (hk:gX P src dst x h K):ir P (convert src dst x) h K:=by
 unfold gX at hk;split at hk
 ·rename_i k n;split at hk
  ·rename_i k1 k2 h1 h2;exact PG.Ac (.here (fun w _=>by simp[convert,run_underlying h1,run_underlying h2,Conv.intToInt]) hk)
  ·exact hk.elim
 ·rename_i s;split at hk
  ·rename_i h1 h2;exact PG.Ac (.here (fun w _=>by simp[convert,run_underlying h1,run_underlying h2]) hk)
  ·rename_i e h1 h2;obtain⟨he,hk⟩:=hk;intro w hi
   let cap:=(Question.appendCap s.size 0 e).cut (w.tape w.drawn (.appendCap s.size 0 e))
   have hcap:s.size<=cap:=Nat.le_add_right _ _
   let w1:World:={w with drawn:=w.drawn+1}
   have hi1:Is w1 h:=hi
   let cells:=dZ s++Array.replicate (cap-s.size) (.int .u8 0)
   have hsz:cells.size=cap:=by
    have:s.size=s.data.size:=rfl
    simp only[cells,dZ,Array.size_append,Array.size_map,Array.size_replicate];omega
   have hi2:=hi1.push (.cells cells e (0,0));have hi3:=hi2.freeze (b:=h.n) (n:=cap) (c:=cells) (t:=e) (by simp[Hp.to,Hp.put]);refine⟨.slice (some ⟨h.n,0,none⟩) s.size cap,_,_,?_,hi3,⟨rfl,rfl,rfl⟩,?_⟩
   ·have hshape:({w1 with heap:=w1.heap.push (.cells cells e (0,0))}:World).shape? h.n=some (e,cap):=by
     have:=hi2.2 h.n _ (by simp[Hp.to,Hp.put];rfl);simp only[World.shape?,this,hsz]
    simp only[convert,Sem.run_bind,run_underlying h1,run_underlying h2,Result.andThen_ok,run_underlying he,Conv.stringToBytes];rw[show(choose (.appendCap s.size 0 e)).run P w= .ok cap w1 from by simp[choose,Sem.run,Question.forced];exact⟨rfl,rfl⟩];simp only[Result.andThen_ok];rw[show(s.data.map fun b=>Value.int .u8 (b.toNat:Int))=dZ s from rfl];rw[kl e _ hi1];simp only[Result.andThen_ok,markStringish,Sem.run_bind];have hsh:(Go.shape h.n).run P ({w1 with heap:=w1.heap.push (.cells cells e (0,0))}:World)= .ok (some (e,cap)) ({w1 with heap:=w1.heap.push (.cells cells e (0,0))}:World):=by simp only[Go.shape,Sem.run,hshape]
    rw[hsh];rfl
   ·have:=hk cap hcap;rw[Jh,yj];exact this
  ·exact hk.elim
 ·rename_i base len cap;split at hk
  ·rename_i e h1 h2;obtain⟨he,hk⟩:=hk;split at hk
   ·refine PG.Ac (.here (fun w _=>?_) hk);exact run_convert_bytes_nil w src e h1 he _ _ dst h2
   ·rename_i b o;split at hk
    ·rename_i c t fz hc;split at hk
     ·rename_i bs hb;refine PG.Ac (.here (fun w hi=>?_) hk);cases hl:cG c o len with
      |none=>rw[hl]at hb;cases hb
      |some l=>
       rw[hl]at hb;obtain⟨ns,rfl,rfl⟩:=mq l bs hb;have hload:=run_loadCells (P:=P) (w:=w) (fun i=>hi.cell (i:=i) hc) hl;rw[run_convert_bytes_string w src dst e _ _ _ h1 he h2,run_bytesToString w _ _ _ ns hload,foldl_push_bytes];simp[ByteArray.empty,ByteArray.emptyWithCapacity];rfl
     ·exact hk.elim
    ·exact hk.elim
   ·exact hk.elim
  ·exact hk.elim
 ·exact hk.elim
def bnd (v:Option Value) (d:Int):Option Int:=match v with
 |none=>some d
 |some (.int _ i)=>some i
 |_=>none
def uv (v:Option Value) (h m:Int):Prop:=match v with
 |none=>True
 |some _=>h<=m
def iw (a:Option Addr) (l h m k:Nat):Value:= .slice (if m=l then a else a.map (·.add (l*k))) (h-l) (m-l)
def da (P:Program) (t:TypeId) (x:Value) (lo hi mx:Option Value) (K:Value->Prop):Prop:=
 match x with
 | .string s=>P.underlying t=some .string/\mx.isSome=false/\(match bnd hi s.size,bnd lo 0 with
  |some h,some l=>0<=l/\l<=h/\h<=s.size/\K (.string (s.extract l.toNat h.toNat))
  |_,_=>False)
 | .slice a len cap=>(match P.underlying t with
  |some (.slice e)=>(match aB P e,bnd mx cap,bnd hi len,bnd lo 0 with
   |some k,some m,some h,some l=>(mx.isSome=true->hi.isSome=true)/\0<=l/\l<=h/\uv hi h m/\m<=(cap:Int)/\K (iw a l.toNat h.toNat m.toNat k)
   |_,_,_,_=>False)
  |_=>False)
 |_=>False
theorem Ji (v:Value) (d:Int):bnd (some v) d=bnd (some v) 0:=by cases v<;>rfl
theorem jY {P:Program} {v:Value} {i:Int} {y:Nat} {code:BoundsCode} {w:World} (hv:bnd (some v) 0=some i) (h0:0<=i) (h1:i<=(y:Int)):(Instr.sliceBound v y code).run P w= .ok i.toNat w:=by
 unfold bnd at hv;split at hv
 ·rename_i e;cases e
 ·rename_i k j e;injection e with e;injection hv with hv;subst e hv;exact run_sliceBound w k j y code h0 h1
 ·cases hv
theorem uw {P:Program} {q:Bool} {len cap:Nat} {lo hi mx:Option Value} {m h l:Int} {w:World} (hm:bnd mx cap=some m) (hh:bnd hi len=some h) (hl:bnd lo 0=some l)
 (hx:mx.isSome=true->hi.isSome=true) (h0:0<=l) (h1:l<=h) (h2:uv hi h m) (h3:m<=(cap:Int)):
 (Instr.sliceBounds q len cap lo hi mx).run P w= .ok (l.toNat,h.toNat,m.toNat) w:=by
 unfold Instr.sliceBounds;cases mx with
 |none=>
  injection hm with hm;subst hm;cases hi with
  |none=>
   injection hh with hh;subst hh;cases lo with
   |none=>injection hl with hl;subst hl;simp
   |some v=>
    simp only[Sem.run_bind,Sem.run_pure,Result.andThen_ok];rw[jY (i:=l) hl h0 h1];simp
  |some u=>
   have hu:bnd (some u) 0=some h:=by rw[<-hh];exact(Ji _ _).symm
   simp only[uv]at h2;simp only[Sem.run_bind,Sem.run_pure,Result.andThen_ok];rw[jY hu (by omega) h2];cases lo with
   |none=>injection hl with hl;subst hl;simp
   |some v=>
    simp only[Result.andThen_ok,Sem.run_bind,Sem.run_pure];rw[jY (i:=l) hl h0 (by omega)];simp
 |some x=>
  cases hi with
  |none=>simp at hx
  |some u=>
   have hu:bnd (some u) 0=some h:=by rw[<-hh];exact(Ji _ _).symm
   have hx':bnd (some x) 0=some m:=by rw[<-hm];exact(Ji _ _).symm
   simp only[uv]at h2;simp only[Sem.run_bind,Sem.run_pure,Result.andThen_ok];rw[jY hx' (by omega) h3];simp only[Result.andThen_ok,Sem.run_bind,Sem.run_pure];rw[jY hu (by omega) (by omega)];cases lo with
   |none=>injection hl with hl;subst hl;simp
   |some v=>
    simp only[Result.andThen_ok,Sem.run_bind,Sem.run_pure];rw[jY (i:=l) hl h0 (by omega)];simp
theorem yo {P:Program} {t:TypeId} {x:Value} {lo hi mx:Option Value} {h:Hp} {K:Value->Prop} (hk:da P t x lo hi mx K):PG P (Instr.sliceAt t x lo hi mx) h K:=by
 unfold da at hk;split at hk
 ·rename_i s;obtain⟨hu,hmx,hk⟩:=hk;split at hk
  ·rename_i hh l e1 e2;obtain⟨h0,h1,h2,hk⟩:=hk;refine .here (fun w _=>?_) hk;have:=uw (P:=P) (q:=false) (len:=s.size) (cap:=s.size) (lo:=lo) (hi:=hi) (mx:=none) (m:=s.size) (h:=hh) (l:=l) (w:=w) rfl e1 e2 (by simp) h0 h1 (by unfold uv;split<;>trivial) (Int.le_refl _)
   simp[Instr.sliceAt,run_underlying hu,Instr.slice,hmx,this]
  ·exact hk.elim
 ·rename_i a len cap;split at hk
  ·rename_i e hu;split at hk
   ·rename_i k m hh l hs e0 e1 e2;obtain⟨hx,h0,h1,h2,h3,hk⟩:=hk;refine .here (fun w _=>?_) hk;have:=uw (P:=P) (q:=true) (w:=w) e0 e1 e2 hx h0 h1 h2 h3;simp[Instr.sliceAt,run_underlying hu,Instr.slice,this,run_sizeOf hs,iw]
   ·exact hk.elim
  ·exact hk.elim
 ·exact hk.elim
def ux (P:Program) (t:TypeId) (len cap:Value) (h:Hp) (K:KH):Prop:=
 match len,cap with
 | .int _ l,.int _ c=>(match P.underlying t with
  |some (.slice e)=>(match aB P e,jS P e,cL P e with
   |some k,some by',some z=>0<=l/\l<=c/\(by':Int)*c<=281474976710656/\c<=9223372036854775807/\
    K (.slice (some ⟨h.n,0,none⟩) l.toNat c.toNat) ((h.put h.n (.cells (madeCells z.cells (c.toNat*k)) e (0,0))).to (h.n+1))
   |_,_,_=>False)
  |_=>False)
 |_,_=>False
theorem Af {P:Program} {t:TypeId} {k b:Nat} {z:Value} (hs:aB P t=some k) (hb:jS P t=some b) (hz:cL P t=some z):∃i:TypeInfo,P.info? t=some i/\i.size=k/\i.bytes=b/\i.zero=some z:=by
 unfold aB at hs;unfold jS at hb;unfold cL at hz;cases hi:P.info? t with
 |none=>simp[hi]at hs
 |some i=>simp[hi]at hs hb hz;exact⟨i,rfl,hs,hb,hz⟩
theorem Ag {P:Program} {t:TypeId} {len cap:Value} {h:Hp} {K:KH} (hk:ux P t len cap h K):ir P (Instr.makeSlice t len cap) h K:=by
 unfold ux at hk;split at hk
 ·rename_i k1 l k2 c;split at hk
  ·rename_i e hu;split at hk
   ·rename_i k by' z hs hb hz;obtain⟨h0,h1,h2,h3,hk⟩:=hk;intro w hi;refine⟨_,_,_,?_,hi.push _,bG.push _ _,hk⟩;obtain⟨i,e1,e2,e3,e4⟩:=Af hs hb hz;have:=run_make (P:=P) w t e i z hu e1 e4 k1 k2 l c h0 h1 (by rw[e3];exact h2) h3;rw[e2,hi.1]at this;exact this
   ·exact hk.elim
  ·exact hk.elim
 ·exact hk.elim
def bP (h:Hp) (k:Nat) (x:Value):Option (Nat×List Value):=
 match x with
 | .slice none n _=>some (n,[])
 | .slice (some ⟨b,o,none⟩) n _=>(match h.f b with
  |some (.cells c _ _)=>(cG c o (n*k)).map (n,·)
  |_=>(match n with
   |0=>some (0,[])
   |_+1=>none))
 | .slice (some ⟨_,_,some _⟩) 0 _=>some (0,[])
 | .string s=>some (s.size,(dZ s).toList)
 |_=>none
theorem yp {P:Program} {h:Hp} {k n:Nat} {x:Value} {l:List Value} (e:bP h k x=some (n,l)) (w:World):(Builtin.lenOf x).run P w= .ok n w:=by
 unfold bP at e;split at e
 ·injection e with e;injection e with e1 e2;subst e1;simp[Builtin.lenOf]
 ·split at e
  ·simp only[Option.map_eq_some_iff,Prod.mk.injEq]at e;obtain⟨_,_,rfl,_⟩:=e;simp[Builtin.lenOf]
  ·split at e
   ·injection e with e;injection e with e1 e2;subst e1;simp[Builtin.lenOf]
   ·cases e
 ·injection e with e;injection e with e1 e2;subst e1;simp[Builtin.lenOf]
 ·injection e with e;injection e with e1 e2;subst e1;simp[Builtin.lenOf]
 ·cases e
theorem mr {P:Program} {h:Hp} {k n:Nat} {x:Value} {l:List Value} (e:bP h k x=some (n,l)) {w:World} (hi:Is w h):(Builtin.firstCells k n x).run P w= .ok l.toArray w:=by
 unfold bP at e;split at e
 ·injection e with e;injection e with e1 e2;subst e1 e2;simp[Builtin.firstCells]
 ·split at e
  ·rename_i c t fz hc;simp only[Option.map_eq_some_iff,Prod.mk.injEq]at e;obtain⟨l',hl,rfl,rfl⟩:=e;exact run_loadCells (P:=P) (w:=w) (fun i=>hi.cell (i:=i) hc) hl
  ·split at e
   ·injection e with e;injection e with e1 e2;subst e1 e2;simp[Builtin.firstCells,loadCells,loadCellsFrom]
   ·cases e
 ·injection e with e;injection e with e1 e2;subst e1 e2;simp[Builtin.firstCells,loadCells,loadCellsFrom]
 ·rename_i s;injection e with e;injection e with e1 e2;subst e1 e2
  have:s.extract 0 s.size=s:=by
   obtain⟨⟨l⟩⟩:=s;rw[show(ByteArray.mk ⟨l⟩).size=l.length from rfl];exact(ByteArray.extract_mk l 0 l.length).trans (by simp)
  simp only[Builtin.firstCells,dZ,this,Sem.run_pure]
 ·cases e
theorem w6 (need:Nat):∀(r c:Nat),Builtin.growBy need r c<=max c (need+(need+768)/4)
 |0,c=>by simp[Builtin.growBy];omega
 |r+1,c=>by
  simp only[Builtin.growBy];split
  ·omega
  ·have:=w6 need r (c+(c+768)/4);omega
theorem CV (need cap:Nat) (h:cap<need):Builtin.nextslicecap need cap<=2*need:=by
 unfold Builtin.nextslicecap;split
 ·omega
 ·split
  ·omega
  ·have:=w6 need 4 cap;omega
def ES (e:TypeId) (z:Value) (need:Nat) (old new:List Value) (h:Hp) (K:KH):Prop:=
 ∀cap,need<=cap->K (.slice (some ⟨h.n,0,none⟩) need cap) ((h.put h.n (.cells (old++(new++cI z.cells.toList (cap-need))).toArray e (0,0))).to (h.n+1))
def sV (base:Option Addr) (k sLen n jH:Nat) (new:List Value) (h:Hp) (K:KH):Prop:=
 match base with
 |none=>K (.slice none (sLen+n) jH) h
 |some ⟨b,o,none⟩=>(match h.f b with
  |some (.cells c e fz)=>new.all Value.oneCell'=true/\o+sLen*k+new.length<=c.size/\qk fz (o+sLen*k) new.length/\
   K (.slice (some ⟨b,o,none⟩) (sLen+n) jH) (h.put b (.cells (dL c (o+sLen*k) new) e fz))
  |_=>False)
 |_=>False
def iy (P:Program) (t tx:TypeId) (s x:Value) (h:Hp) (K:KH):Prop:=
 match s with
 | .slice base sLen jH=>∃e dx k by' z n new,P.underlying t=some (.slice e)/\P.underlying tx=some dx/\(∀q,dx≠ .int q)/\aB P e=some k/\jS P e=some by'/\cL P e=some z/\
  z.cells.size=k/\0<by'/\bP h k x=some (n,new)/\
  (sLen+n<=jH->sV base k sLen n jH new h K)/\
  (jH<sLen+n->(sLen+n)*by'<=140737488355328/\∃old,bP h k s=some (sLen,old)/\ES e z (sLen+n) old new h K)
 |_=>False
theorem wJ {P:Program} {t tx ty:TypeId} {s x:Value} {h:Hp} {K:KH} (hk:iy P t tx s x h K):ir P (Builtin.append_ #[t,tx] ty #[s,x]) h K:=by
 unfold iy at hk;split at hk
 ·rename_i base sLen jH;obtain⟨e,dx,k,by',z,n,new,hu,hx,hni,hs,hb,hz,hzs,hb0,hsrc,hin,hout⟩:=hk;obtain⟨i,e1,e2,e3,e4⟩:=Af hs hb hz;intro w hi;have hlen:=yp (P:=P) hsrc w;have hcells:=mr (P:=P) hsrc hi;by_cases hle:sLen+n<=jH
  ·have hst:=hin hle;unfold sV at hst;split at hst
   ·refine⟨_,w,h,?_,hi,bG.refl w,hst⟩;simp only[Builtin.append_];simp[run_underlying hu,run_underlying hx,run_sizeOf hs];cases dx<;>first|(exact(hni _ rfl).elim)|simp[hlen,hle,hcells]
   ·rename_i b o;split at hst
    ·rename_i c e' fz hc;obtain⟨h1,h2,h3,hst⟩:=hst;obtain⟨w',hr,hi',hsame⟩:=iq (P:=P) new w h c (o+sLen*k) 0 (fun v hv=>List.all_eq_true.1 h1 v hv) (by simpa using h2) (by simpa using h3) hi hc;refine⟨_,w',_,?_,hi',hsame,by simpa using hst⟩;simp only[Builtin.append_];simp[run_underlying hu,run_underlying hx,run_sizeOf hs];cases dx<;>first|(exact(hni _ rfl).elim)|simp[hlen,hle,hcells,kg,hr]
    ·exact hst.elim
   ·exact hst.elim
  ·obtain⟨hby,old,ho,hg⟩:=hout (by omega);obtain⟨cap,hcd⟩:∃cap,(Question.appendCap (sLen+n) jH e).cut (w.tape w.drawn (.appendCap (sLen+n) jH e))=cap:=⟨_,rfl⟩;have hcap:sLen+n<=cap:=by rw[<-hcd];exact Nat.le_add_right _ _
   have hi1:Is w.drew h:=hi;have hff:(Question.appendCap (sLen+n) jH e).forced=false:=rfl
   have hcells1:=mr (P:=P) hsrc hi1;have hold1:=mr (P:=P) ho hi1;refine⟨_,_,_,?_,hi1.push _,⟨rfl,rfl,rfl⟩,hg cap hcap⟩;have hn1:¬(sLen+n<=jH):=hle
   have hn2:¬((((sLen+n:Nat):Int)>IntKind.i64.max)/\(False∨i.bytes=0)):=by
    intro hh;rcases hh.2 with hh|hh
    ·exact hh
    ·omega
   have hmul:Builtin.nextslicecap (sLen+n) jH*i.bytes<=281474976710656:=by
    have:=CV (sLen+n) jH (by omega);have h2:=Nat.mul_le_mul_right i.bytes this;rw[e3]at h2⊢;rw[Nat.mul_assoc]at h2;omega
   have hask:∀m,(askRoom m).run P w.drew= .ok () w.drew:=fun m=>by unfold askRoom;split<;>simp[mark,Sem.run]
   have hzc:Builtin.zeroCells z.cells (cap-(sLen+n))=(cI z.cells.toList (cap-(sLen+n))).toArray:=by
    rw[<-iP];rfl
   have hti:∀w',(typeInfo e).run P w'= .ok i w':=fun w'=>by simp[typeInfo,e1]
   have hn3:¬(i.bytes=0):=by omega
   have hn4:¬(281474976710656<Builtin.nextslicecap (sLen+n) jH*i.bytes):=by omega
   simp only[Builtin.append_];simp[run_underlying hu,run_underlying hx,run_sizeOf hs]
   cases dx<;>first
    |(exact(hni _ rfl).elim)
    |(simp[hlen,hn1,hti,hn3,hn4,hff,hcd,hask,hcells1,hold1,ff hz,hzc]
      rw[kl e _ hi1];simp)
 ·exact hk.elim
def km (h:Hp) (k n:Nat) (x:Value):Option (List Value):=
 match x with
 | .slice none _ _=>some []
 | .slice (some ⟨b,o,none⟩) _ _=>(match h.f b with
  |some (.cells c _ _)=>cG c o (n*k)
  |_=>none)
 | .string s=>some ((s.toList.take n).map fun b=> .int .u8 b.toNat)
 |_=>none
def Jj:Value->Option Nat
 | .slice _ n _=>some n
 | .string s=>some s.size
 |_=>none
def nz (P:Program) (t:TypeId) (d x:Value) (h:Hp) (K:KH):Prop:=
 match d with
 | .slice base dLen _=>(match P.underlying t,Jj x with
  |some (.slice e),some m=>(match aB P e with
   |some k=>(match km h k (min m dLen) x with
    |some l=>(match base with
     |none=>K (.int .i64 (min m dLen:Nat)) h
     |some ⟨b,o,none⟩=>(match h.f b with
      |some (.cells c e' fz)=>l.all Value.oneCell'=true/\o+l.length<=c.size/\qk fz o l.length/\K (.int .i64 (min m dLen:Nat)) (h.put b (.cells (dL c o l) e' fz))
      |_=>False)
     |_=>False)
    |none=>False)
   |none=>False)
  |_,_=>False)
 |_=>False
theorem uy {P:Program} {h:Hp} {k n:Nat} {x:Value} {l:List Value} (e:km h k n x=some l) {w:World} (hi:Fits w h):(Builtin.firstCells k n x).run P w= .ok l.toArray w:=by
 unfold km at e;split at e
 ·injection e with e;subst e;simp[Builtin.firstCells]
 ·split at e
  ·rename_i c t fz hc;exact run_loadCells (P:=P) (w:=w) (fun i=>hi.cell (i:=i) hc) e
  ·cases e
 ·rename_i s;injection e with e;subst e;obtain⟨⟨l⟩⟩:=s;have h1:(ByteArray.mk ⟨l⟩).extract 0 n=ByteArray.mk (l.take n).toArray:=(ByteArray.extract_mk l 0 n).trans (by simp);have h2:(ByteArray.mk ⟨l⟩).toList=l:=ByteArray.toList_mk l;simp only[Builtin.firstCells,h1,h2,Sem.run_pure];congr 1;apply Array.ext';simp
 ·cases e
theorem Ah {P:Program} {t:TypeId} {ats:Array TypeId} {ty:TypeId} {d x:Value} {h:Hp} {K:KH} (ht:ats[0]?=some t) (hk:nz P t d x h K):ir P (Builtin.copy_ ats ty #[d,x]) h K:=by
 unfold nz at hk;split at hk
 ·rename_i base dLen dCap;split at hk
  ·rename_i e m hu hl
   have hlen:∀w,(Builtin.lenOf x).run P w= .ok m w:=fun w=>by
    unfold Jj at hl;split at hl<;>first|(injection hl with hl;subst hl;simp[Builtin.lenOf])|cases hl
   split at hk
   ·rename_i k hs;split at hk
    ·rename_i l hf;split at hk
     ·refine PG.Ac (.here (fun w hi=>?_) hk);have hfc:=uy (P:=P) hf hi;simp[Builtin.copy_,ht,run_underlying hu,hlen,run_sizeOf hs,show Nat.min m dLen=min m dLen from rfl,hfc,goInt]
     ·rename_i b o;split at hk
      ·rename_i c e' fz hc;obtain⟨h1,h2,h3,hk⟩:=hk;intro w hi;obtain⟨w',hr,hi',hsame⟩:=iq (P:=P) l w h c o 0 (fun v hv=>List.all_eq_true.1 h1 v hv) (by simpa using h2) (by simpa using h3) hi hc;refine⟨_,w',_,?_,hi',hsame,by simpa using hk⟩;have hfc:=uy (P:=P) hf hi.fits;simp[Builtin.copy_,ht,run_underlying hu,hlen,run_sizeOf hs,show Nat.min m dLen=min m dLen from rfl,hfc,hr,goInt]
      ·exact hk.elim
     ·exact hk.elim
    ·exact hk.elim
   ·exact hk.elim
  ·exact hk.elim
 ·exact hk.elim
def lD (P:Program) (t:TypeId) (x:Value) (h:Hp) (K:Value->Prop):Prop:=
 match P.underlying t,x with
 |some .string,.string s=>K (.int .i64 s.size)
 |some (.slice _),.slice _ n _=>K (.int .i64 n)
 |some (.array n _),_=>K (.int .i64 n)
 |some (.map _ _),.map none=>K (.int .i64 0)
 |some (.map _ _),.map (some r)=>(match h.f r with
  |some (.map es _)=>K (.int .i64 es.size)
  |_=>False)
 |_,_=>False
theorem ko {P:Program} {w:World} {h:Hp} (hi:Fits w h) {r:Nat} {es:Array MapEntry} {cl:Nat} (e:h.f r=some (.map es cl)):(getObj r).run P w= .ok (.map es cl) w:=by
 have h1:=hi r _ e;simp[getObj,Sem.run,h1]
theorem CW {P:Program} {t ty:TypeId} {x:Value} {h:Hp} {K:Value->Prop} (hk:lD P t x h K):PG P (Builtin.len_ #[t] ty #[x]) h K:=by
 unfold lD at hk;split at hk
 ·rename_i s hu;exact .here (fun w _=>by simp[Builtin.len_,run_underlying hu,goInt]) hk
 ·rename_i e a n c hu;exact .here (fun w _=>by simp[Builtin.len_,run_underlying hu,goInt]) hk
 ·rename_i n e hu;exact .here (fun w _=>by simp[Builtin.len_,run_underlying hu,goInt]) hk
 ·rename_i k e hu;exact .here (fun w _=>by simp[Builtin.len_,run_underlying hu,goInt]) hk
 ·rename_i k e r hu;split at hk
  ·rename_i es cl he;exact .here (fun w hi=>by simp only[Builtin.len_];simp[run_underlying hu,goInt,ko hi he]) hk
  ·exact hk.elim
 ·exact hk.elim
def cn (mx:Bool) (x y:Value) (K:Value->Prop):Prop:=
 match x,y with
 | .int k a,.int _ b=>K (.int k (if mx then max a b else min a b))
 |_,_=>False
theorem CX {P:Program} {ats:Array TypeId} {ty:TypeId} {x y:Value} {h:Hp} {K:Value->Prop} (hk:cn false x y K):PG P (Builtin.min_ ats ty #[x,y]) h K:=by
 unfold cn at hk;split at hk
 ·rename_i k a k' b;refine .here (fun w _=>?_) hk;have:(if b<a then b else a)=min a b:=by omega
  simp[Builtin.min_,Builtin.min2,this]
 ·exact hk.elim
theorem CY {P:Program} {ats:Array TypeId} {ty:TypeId} {x y:Value} {h:Hp} {K:Value->Prop} (hk:cn true x y K):PG P (Builtin.max_ ats ty #[x,y]) h K:=by
 unfold cn at hk;split at hk
 ·rename_i k a k' b;refine .here (fun w _=>?_) hk;have:(if b>a then b else a)=max a b:=by omega
  simp[Builtin.max_,Builtin.max2,this]
 ·exact hk.elim
theorem Ai {P:Program} {ats:Array TypeId} {ty:TypeId} {x y z:Value} {h:Hp} {K:Value->Prop} (hk:cn false x y fun u=>cn false u z K):PG P (Builtin.min_ ats ty #[x,y,z]) h K:=by
 unfold cn at hk;split at hk
 ·rename_i k a k' b;split at hk
  ·rename_i u v d c q e he;injection he with h1 h2;subst h1;refine .here (fun w _=>?_) hk;have e1:(if b<a then b else a)=c:=by rw[<-h2];simp only[Bool.false_eq_true,if_false];omega
   have e2:(if e<c then e else c)=min c e:=by omega
   simp[Builtin.min_,Builtin.min2,e1,e2]
  ·exact hk.elim
 ·exact hk.elim
theorem Aj {P:Program} {ats:Array TypeId} {ty:TypeId} {x y z:Value} {h:Hp} {K:Value->Prop} (hk:cn true x y fun u=>cn true u z K):PG P (Builtin.max_ ats ty #[x,y,z]) h K:=by
 unfold cn at hk;split at hk
 ·rename_i k a k' b;split at hk
  ·rename_i u v d c q e he;injection he with h1 h2;subst h1;refine .here (fun w _=>?_) hk;have e1:(if b>a then b else a)=c:=by rw[<-h2];simp only[if_true];omega
   have e2:(if e>c then e else c)=max c e:=by omega
   have e1':(if a<b then b else a)=c:=e1;have e2':(if c<e then e else c)=max c e:=e2;simp[Builtin.max_,Builtin.max2,e1',e2']
  ·exact hk.elim
 ·exact hk.elim
def cq:TypeDesc->Bool
 | .int _=>true
 | .string=>true
 |_=>false
def jM (fs:Array Field):List (Nat×Nat):=fs.toList.map fun f=>(1,f.offset)
def yq (P:Program) (kt:TypeId):TypeDesc->Bool
 | .struct fs=>decide (iu P kt=some (jM fs))
 |_=>false
def rD (P:Program) (kt:TypeId) (kd:TypeDesc):Prop:=(cq kd||yq P kt kd)=true
def dq (P:Program) (t:TypeId):Option (TypeId×TypeDesc×TypeId):=match P.underlying t with
 |some (.map kt et)=>(match P.underlying kt with
  |some kd=>if(cq kd||yq P kt kd)=true then some (kt,kd,et)else none
  |none=>none)
 |_=>none
theorem mu {P:Program} {t kt et:TypeId} {kd:TypeDesc} (h:dq P t=some (kt,kd,et)):P.underlying t=some (.map kt et)/\P.underlying kt=some kd/\rD P kt kd:=by
 unfold dq at h;split at h
 ·rename_i a b hu;split at h
  ·rename_i k hk;split at h
   ·rename_i hs;simp only[Option.some.injEq,Prod.mk.injEq]at h;obtain⟨rfl,rfl,rfl⟩:=h;exact⟨hu,hk,hs⟩
   ·cases h
  ·cases h
 ·cases h
def qq:TypeDesc->Value->Bool
 | .struct fs,.agg xs=>(cH xs xs (jM fs)).isSome
 | .struct _,_=>false
 |_,_=>true
def nA (kd:TypeDesc) (k v:Value):Option Bool:=match kd,k,v with
 | .struct fs,.agg xs,.agg ys=>(match cH xs ys (jM fs)with
  |some true=>if Instr.sameBits 10000 (.agg ys) (.agg xs)=true then some true else none
  |some false=>some false
  |none=>none)
 |kd,k,v=>Instr.sameNow kd k v
theorem pb {P:Program} {kt:TypeId} {kd:TypeDesc} (hk:P.underlying kt=some kd) (hs:cq kd=true) (q:Bool) (v:Value) (w:World) (n:Nat):(Instr.checkKey q (n+1) kt v).run P w= .ok () w:=by
 simp only[Instr.checkKey,Sem.run_bind,run_underlying hk,Result.andThen_ok];cases kd<;>first|(simp[cq]at hs;done)|simp
theorem kV {xs ys:Array Value}:∀{l:List (Nat×Nat)} {q:Bool},cH xs ys l=some q->∃q',cH xs xs l=some q'
 | [],q,h=>⟨true,rfl⟩
 |(k,o)::l,q,h=>by
  unfold cH at h⊢;split at h
  ·rename_i k1 a k2 b e1 e2;split at h
   ·rename_i hk;simp only[Option.map_eq_some_iff]at h;obtain⟨r,h1,_⟩:=h;obtain⟨q',h2⟩:=kV h1;simp only[e1,hk.1,true_and,if_true,h2];exact⟨_,rfl⟩
   ·cases h
  ·rename_i a b e1 e2;split at h
   ·rename_i hk;simp only[Option.map_eq_some_iff]at h;obtain⟨r,h1,_⟩:=h;obtain⟨q',h2⟩:=kV h1
    (try simp only[e1,hk,if_true,h2])
    exact⟨_,rfl⟩
   ·cases h
  ·rename_i a b e1 e2;split at h
   ·rename_i hk;simp only[Option.map_eq_some_iff]at h;obtain⟨r,h1,_⟩:=h;obtain⟨q',h2⟩:=kV h1
    (try simp only[e1,hk,if_true,h2])
    exact⟨_,rfl⟩
   ·cases h
  ·cases h
theorem Ak {kd:TypeDesc} {k v:Value} {q:Bool} (h:nA kd k v=some q):qq kd k=true:=by
 unfold nA at h;split at h
 ·rename_i fs xs ys;show(cH xs xs (jM fs)).isSome=true;cases e:cH xs ys (jM fs)with
  |none=>rw[e]at h;cases h
  |some r=>
   obtain⟨q',h2⟩:=kV e;rw[h2];rfl
 ·rename_i hne;unfold qq;split
  ·rename_i fs xs;unfold Instr.sameNow at h;split at h<;>first|cases h|skip
   all_goals simp_all
  ·unfold Instr.sameNow at h;split at h<;>first|cases h|skip
   all_goals simp_all
  ·rfl
def gv (kd:TypeDesc) (k:Value):List MapEntry->Nat->Option (Option (Nat×Value))
 | [],_=>(match qq kd k with
  |true=>some none
  |false=>none)
 |e::es,i=>(match nA kd k e.key with
  |some true=>some (some (i,e.val))
  |some false=>gv kd k es (i+1)
  |none=>none)
theorem nB {kd:TypeDesc} {k:Value}:∀{l:List MapEntry} {i:Nat} {r:Option (Nat×Value)},gv kd k l i=some r->qq kd k=true
 | [],i,r,h=>by
  unfold gv at h;split at h
  ·assumption
  ·cases h
 |e::es,i,r,h=>by
  unfold gv at h;split at h
  ·rename_i hs;exact Ak hs
  ·rename_i hs;exact Ak hs
  ·cases h
theorem nC {kd:TypeDesc} (hs:cq kd=true) (k v:Value):nA kd k v=Instr.sameNow kd k v:=by
 cases kd<;>first|(simp[cq]at hs;done)|rfl
theorem G4 {kd:TypeDesc} (hs:cq kd=true) (k:Value):qq kd k=true:=by
 cases kd<;>first|(simp[cq]at hs;done)|rfl
theorem Al {kd:TypeDesc} (hs:cq kd=true) (k:Value):∀(l:List MapEntry) (i:Nat),Instr.findNow kd k l i=gv kd k l i
 | [],_=>by simp only[Instr.findNow,gv,G4 hs]
 |e::es,i=>by
  simp only[Instr.findNow,gv,nC hs];cases Instr.sameNow kd k e.key with
  |none=>rfl
  |some q=>
   cases q
   ·exact Al hs k es (i+1)
   ·rfl
theorem rD.str {P:Program} {kt:TypeId} {kd:TypeDesc} (h:rD P kt kd) (hs:¬cq kd=true):∃fs,kd= .struct fs/\iu P kt=some (jM fs):=by
 unfold rD at h;rw[show cq kd=false by simpa using hs,Bool.false_or]at h;unfold yq at h;split at h
 ·exact⟨_,rfl,of_decide_eq_true h⟩
 ·cases h
theorem sW {P:Program} {t:TypeId} {l:List (Nat×Nat)} (h:iu P t=some l):∃fs,P.underlying t=some (.struct fs)/\P.stoodInHeld t=false/\gy P fs.toList=some l:=by
 unfold iu at h;split at h
 ·rename_i fs hu;split at h
  ·rename_i hg;exact⟨fs,hu,hg.1,h⟩
  ·cases h
 ·cases h
theorem Am {P:Program} {q:Bool} {xs:Array Value} (n:Nat) (w:World):∀(fs:List Field) (l:List (Nat×Nat)) (r:Bool),gy P fs=some l->cH xs xs l=some r->
 (forIn fs () fun f (_:Unit)=>(do
  if f.name≠ "_" then do
   let a<-part f.type xs f.offset
   Instr.checkKey q (n+1) f.type a
   pure (ForInStep.yield ())
  else pure (ForInStep.yield ()):Sem (ForInStep Unit))).run P w= .ok () w:=by
 intro fs
 induction fs with
 |nil=>intro l r _ _;rfl
 |cons f fs ih=>
  intro l r h h2;rw[List.forIn_cons];unfold gy at h;split at h
  ·rename_i hn;rw[if_neg (by simp[hn])];simp only[Sem.run_bind,Sem.run_pure,Result.andThen_ok];exact ih l r h h2
  ·rename_i hn;rw[if_pos hn];split at h
   ·rename_i ha
    have fin_:∀(k:Nat) (kd:TypeDesc),cq kd=true∨kd= .bool->P.underlying f.type=some kd->(gy P fs).map ((k,f.offset)::·)=some l->(do
     let a<-part f.type xs f.offset
     Instr.checkKey q (n+1) f.type a
     pure (ForInStep.yield ()):Sem (ForInStep Unit)).run P w= .ok (.yield ()) w/\(∃l' r',gy P fs=some l'/\cH xs xs l'=some r'):=fun k kd hkd hu h=>by
     simp only[Option.map_eq_some_iff]at h;obtain⟨l',e1,rfl⟩:=h
     have:∃a r',xs[f.offset]?=some a/\cH xs xs l'=some r':=by
      unfold cH at h2;split at h2
      ·rename_i k1 a k2 b e2 e3;split at h2
       ·simp only[Option.map_eq_some_iff]at h2;obtain⟨r',e4,_⟩:=h2;exact⟨_,r',e2,e4⟩
       ·cases h2
      ·rename_i a b e2 e3;split at h2
       ·simp only[Option.map_eq_some_iff]at h2;obtain⟨r',e4,_⟩:=h2;exact⟨_,r',e2,e4⟩
       ·cases h2
      ·rename_i a b e2 e3;split at h2
       ·simp only[Option.map_eq_some_iff]at h2;obtain⟨r',e4,_⟩:=h2;exact⟨_,r',e2,e4⟩
       ·cases h2
      ·cases h2
     obtain⟨a,r',e2,e3⟩:=this;refine⟨?_,l',r',e1,e3⟩;have p1:(part f.type xs f.offset).run P w= .ok a w:=by simp[part,iN ha,e2]
     have p2:(Instr.checkKey q (n+1) f.type a).run P w= .ok () w:=by
      rcases hkd with hkd|rfl
      ·exact pb hu hkd q a w n
      ·simp only[Instr.checkKey,Sem.run_bind,run_underlying hu,Result.andThen_ok];simp
     simp only[Sem.run_bind,p1,p2,Result.andThen_ok,Sem.run_pure]
    have all:(do
     let a<-part f.type xs f.offset
     Instr.checkKey q (n+1) f.type a
     pure (ForInStep.yield ()):Sem (ForInStep Unit)).run P w= .ok (.yield ()) w/\(∃l' r',gy P fs=some l'/\cH xs xs l'=some r'):=by
     split at h
     ·rename_i kk hu;exact fin_ 0 _ (.inl rfl) hu h
     ·rename_i hu;exact fin_ 1 _ (.inl rfl) hu h
     ·rename_i hu;exact fin_ 2 _ (.inr rfl) hu h
     ·cases h
    obtain⟨g1,l',r',g2,g3⟩:=all;rw[Sem.run_bind,g1,Result.andThen_ok];exact ih l' r' g2 g3
   ·cases h
theorem run_checkKey {P:Program} {kt:TypeId} {kd:TypeDesc} (hk:P.underlying kt=some kd) (hs:rD P kt kd) (q:Bool) {v:Value} (hv:qq kd v=true) (w:World):(Instr.checkKey q 10000 kt v).run P w= .ok () w:=by
 by_cases h:cq kd=true
 ·exact pb hk h q v w 9999
 obtain⟨fs,rfl,he⟩:=hs.str h;obtain⟨fs',hu,hst,hp⟩:=sW he;rw[hk]at hu;injection hu with hu;injection hu with hu;subst hu;cases v with
 |agg xs=>
  obtain⟨r,hr⟩:=Option.isSome_iff_exists.1 (show(cH xs xs (jM fs)).isSome=true from hv)
  have h9:∀m n,m=n+1->(Instr.checkKey q (m+1) kt (.agg xs)).run P w= .ok () w:=fun m n hm=>by
   have:=Am (q:=q) n w fs.toList (jM fs) r hp hr;rw[<-hm]at this;simp only[Instr.checkKey,Sem.run_bind,run_underlying hk,Result.andThen_ok,<-Array.forIn_toList]
   erw[this]
   rfl
  exact h9 9999 9998 rfl
 |_=>simp[qq]at hv
theorem pD {P:Program} {kt:TypeId} {fs:Array Field} (hk:P.underlying kt=some (.struct fs)) (he:iu P kt=some (jM fs)) {k:Value}:∀{l:List MapEntry} {i:Nat} {r:Option (Nat×Value)},gv (.struct fs) k l i=some r->∀w,(Instr.findAsking kt k l i).run P w= .ok r w
 | [],i,r,h,w=>by
  unfold gv at h;split at h
  ·injection h with h;subst h;rfl
  ·cases h
 |e::es,i,r,h,w=>by
  have step:∀q,nA (.struct fs) k e.key=some q->(Op.equal kt k e.key).run P w= .ok q w:=fun q hq=>by
   unfold nA at hq;split at hq
   ·rename_i v2 fs2 xs ys e1 e2;injection e1 with e1;subst e1;rw[e2];obtain⟨fs',hu,hst,hp⟩:=sW he;rw[hk]at hu;injection hu with hu;injection hu with hu;subst hu
    have key:∀q',cH xs ys (jM fs)=some q'->(Op.equal kt (.agg xs) (.agg ys)).run P w= .ok q' w:=fun q' h2=>by
     have hf:P.fieldsOf kt=fs:=by simp[Program.fieldsOf,hk]
     show(Op.equalIn 10000 kt (.agg xs) (.agg ys)).run P w=_;rw[run_equalIn_struct w 9999 kt xs ys (by rw[hf];exact hk) hst,hf];exact jh 9998 _ _ q' hp h2 w
    split at hq
    ·rename_i h2;split at hq
     ·injection hq with hq;subst hq;exact key _ h2
     ·cases hq
    ·rename_i h2;injection hq with hq;subst hq;exact key _ h2
    ·cases hq
   ·unfold Instr.sameNow at hq;split at hq<;>first|cases hq|skip
    all_goals simp_all
  unfold gv at h;simp only[Instr.findAsking,Sem.run_bind];split at h
  ·rename_i hs;injection h with h;subst h;simp[step _ hs]
  ·rename_i hs;simp only[step _ hs,Result.andThen_ok];simpa using pD hk he h w
  ·cases h
theorem run_findKey {P:Program} {kt:TypeId} {kd:TypeDesc} (hk:P.underlying kt=some kd) (hs:rD P kt kd) {k:Value} {l:List MapEntry} {r:Option (Nat×Value)} (h:gv kd k l 0=some r) (w:World):(Instr.findKey kt k l).run P w= .ok r w:=by
 by_cases hsi:cq kd=true
 ·simp only[Instr.findKey,Sem.run_bind,run_underlying hk,Result.andThen_ok,Al hsi,h];rfl
 obtain⟨fs,rfl,he⟩:=hs.str hsi;simp only[Instr.findKey,Sem.run_bind,run_underlying hk,Result.andThen_ok];cases l with
 |nil=>
  have:=pD hk he h w;simp only[Instr.findAsking]at this;simp only[Instr.findNow];exact this
 |cons e es=>
  have:Instr.findNow (.struct fs) k (e::es) 0=none:=by simp[Instr.findNow,Instr.sameNow]
  rw[this];exact pD hk he h w
def rE (h:Hp) (m:Value):Option (List MapEntry):=match m with
 | .map none=>some []
 | .map (some r)=>(match h.f r with
  |some (.map es _)=>some es.toList
  |_=>none)
 |_=>none
def found (z:Option Value) (ok:Bool) (r:Option (Nat×Value)):Option Value:=match r with
 |some (_,v)=>some (if ok then .tuple #[v,.bool true]else v)
 |none=>z.map fun z=>if ok then .tuple #[z,.bool false]else z
def jT (P:Program) (t:TypeId) (m k:Value) (ok:Bool) (h:Hp):Option Value:=
 (dq P t).bind fun x=>(rE h m).bind fun l=>(gv x.2.1 k l 0).bind fun r=>found (cL P x.2.2) ok r
def fo (P:Program) (t:TypeId) (m k:Value) (ok:Bool) (h:Hp) (K:Value->Prop):Prop:=match jT P t m k ok h with
 |some v=>K v
 |none=>False
theorem wK {P:Program} {t:TypeId} {m k:Value} {ok:Bool} {h:Hp} {K:Value->Prop} (hk:fo P t m k ok h K):PG P (Instr.lookup t m k ok) h K:=by
 unfold fo at hk;split at hk
 ·rename_i v hv;refine .here (fun w hi=>?_) hk;simp only[jT,Option.bind_eq_some_iff]at hv;obtain⟨⟨kt,kd,et⟩,hm,l,hl,r,hr,hf⟩:=hv;obtain⟨hu,hku,hs⟩:=mu hm;dsimp only at hr hf
  have fin:∀es:Array MapEntry,es.toList=l->((do
   Instr.checkKey es.isEmpty 10000 kt k
   match<-Instr.findKey kt k es.toList with
    |some (_,v)=>do
     let x<-pure (v,true)
     pure (if ok then .tuple #[x.1,.bool x.2]else x.1)
    |none=>do
     let z<-zeroValue et
     let x<-pure (z,false)
     pure (if ok then .tuple #[x.1,.bool x.2]else x.1)):Sem Value).run P w= .ok v w:=by
   intro es hes;subst hes;simp only[run_checkKey hku hs _ (nB hr),Result.andThen_ok,run_findKey hku hs hr,Sem.run_bind];unfold found at hf;split at hf
   ·injection hf with hf;subst hf;simp
   ·simp only[Option.map_eq_some_iff]at hf;obtain⟨z,hz,rfl⟩:=hf;simp[ff hz]
  unfold rE at hl;split at hl
  ·injection hl with hl;have:=fin #[] (by simpa using hl);simp only[Sem.run_bind]at this;simp only[Instr.lookup,Sem.run_bind,run_underlying hu,Result.andThen_ok,Sem.run_pure];exact this
  ·rename_i r';split at hl
   ·rename_i es cl he;injection hl with hl;have:=fin es hl;simp only[Sem.run_bind]at this;simp only[Instr.lookup,Sem.run_bind,run_underlying hu,Result.andThen_ok,ko hi he,Sem.run_pure];exact this
   ·cases hl
  ·cases hl
 ·exact hk.elim
def chg (k v:Value):List MapEntry->Nat->List MapEntry
 | [],_=> []
 |e::es,0=>{e with key:=k,val:=v}::es
 |e::es,i+1=>e::chg k v es i
theorem CZ (k v:Value):∀(l:List MapEntry) (i:Nat),l.modify i (fun e:MapEntry=>{e with key:=k,val:=v})=chg k v l i
 | [],i=>by cases i<;>rfl
 |e::es,0=>rfl
 |e::es,i+1=>by simp[chg,CZ k v es i]
def Jk (k v:Value) (es:List MapEntry) (cl:Nat) (r:Option (Nat×Value)):Obj:=match r with
 |some (i,_)=> .map (chg k v es i).toArray cl
 |none=> .map (es++ [({key:=k,val:=v,born:=cl}:MapEntry)]).toArray (cl+1)
def qs (P:Program) (t:TypeId) (m k v:Value) (h:Hp):Option Hp:=
 match m with
 | .map (some r)=>(match h.f r with
  |some (.map es cl)=>(dq P t).bind fun x=>(gv x.2.1 k es.toList 0).map fun q=>h.put r (Jk k v es.toList cl q)
  |_=>none)
 |_=>none
def ji (P:Program) (t:TypeId) (m k v:Value) (h:Hp) (K:KH):Prop:=match qs P t m k v h with
 |some g=>K undef g
 |none=>False
theorem Is.C4 {w:World} {h:Hp} (hi:Is w h) {r:Nat} {es es':Array MapEntry} {cl cl':Nat} (e:h.f r=some (.map es cl)) (P:Program):
 ∃w',(setObj r (.map es' cl')).run P w= .ok () w'/\Is w' (h.put r (.map es' cl'))/\bG w w':=by
 have h1:=hi.2 r _ e;have hlt:r<w.heap.size:=(Array.getElem?_eq_some_iff.1 h1).1;refine⟨{w with heap:=w.heap.setIfInBounds r (.map es' cl')},?_,hi.set e (by simp) (by simp[hlt]) (fun x hx=>?_),⟨rfl,rfl,rfl⟩⟩
 ·simp[setObj,Sem.run,h1]
 ·have:¬r=x:=fun e=>hx e.symm
  simp[Array.getElem?_setIfInBounds_ne this]
theorem bytes_beq (a b:ByteArray):(a==b)=true<->a=b:=by
 obtain⟨x⟩:=a;obtain⟨y⟩:=b;show(ByteArray.mk x).beq (ByteArray.mk y)=true<->_;simp[ByteArray.beq]
theorem yr {kd:TypeDesc} {a b:Value} (h:Instr.sameNow kd a b=some true) (n:Nat):Instr.sameBits n b a=true:=by
 unfold Instr.sameNow at h;split at h
 ·split at h
  ·rename_i hk;subst hk;injection h with h;simp only[beq_iff_eq]at h;subst h;simp[Instr.sameBits]
  ·cases h
 ·injection h with h;rw[bytes_beq]at h;subst h;simp only[Instr.sameBits];exact(bytes_beq _ _).2 rfl
 ·injection h with h;simp only[beq_iff_eq]at h;subst h;simp[Instr.sameBits]
 ·cases h
theorem C5 {kd:TypeDesc} {a b:Value} (h:nA kd a b=some true):Instr.sameBits 10000 b a=true:=by
 unfold nA at h;split at h
 ·split at h
  ·split at h
   ·assumption
   ·cases h
  ·cases h
  ·cases h
 ·exact yr h 10000
theorem uz {kd:TypeDesc} {k:Value}:∀(l:List MapEntry) (i j:Nat) (v:Value),gv kd k l i=some (some (j,v))->i<=j/\∃e,l[j-i]?=some e/\nA kd k e.key=some true/\e.val=v
 | [],i,j,v,h=>by unfold gv at h;split at h<;>cases h
 |e::es,i,j,v,h=>by
  simp only[gv]at h;split at h
  ·rename_i hs;simp only[Option.some.injEq,Prod.mk.injEq]at h;obtain⟨rfl,rfl⟩:=h;exact⟨Nat.le_refl _,e,by simp,hs,rfl⟩
  ·obtain⟨hle,e',h1,h2,h3⟩:=uz es (i+1) j v h;refine⟨by omega,e',?_,h2,h3⟩;obtain⟨d,rfl⟩:∃d,j=i+1+d:=⟨j-(i+1),by omega⟩;rw[show i+1+d-i=d+1 from by omega];rw[show i+1+d-(i+1)=d from by omega]at h1;simpa using h1
  ·cases h
theorem pc {P:Program} {t:TypeId} {m k v:Value} {h:Hp} {K:KH} (hk:ji P t m k v h K) (w:World) (hi:Is w h):
 ∃w' h',(Instr.mapUpdate t m k v).run P w= .ok () w'/\Is w' h'/\bG w w'/\K undef h':=by
 unfold ji at hk;split at hk
 ·rename_i g hg;unfold qs at hg;split at hg
  ·rename_i r;split at hg
   ·rename_i es cl he;simp only[Option.bind_eq_some_iff,Option.map_eq_some_iff]at hg;obtain⟨⟨kt,kd,et⟩,hm,q,hq,rfl⟩:=hg;obtain⟨hu,hku,hs⟩:=mu hm;dsimp only at hq;cases q with
    |none=>
     obtain⟨w',h1,h2,h3⟩:=hi.C4 (es':=(es.toList++ [({key:=k,val:=v,born:=cl}:MapEntry)]).toArray) (cl':=cl+1) he P;refine⟨w',_,?_,h2,h3,hk⟩
     have e:(es.toList++ [({key:=k,val:=v,born:=cl}:MapEntry)]).toArray=es.push ({key:=k,val:=v,born:=cl}:MapEntry):=by
      apply Array.ext';simp
     rw[e]at h1;simp only[Instr.mapUpdate,Sem.run_bind,run_underlying hu,Result.andThen_ok,ko hi.fits he,run_checkKey hku hs _ (nB hq),run_findKey hku hs hq,h1]
    |some x=>
     obtain⟨i,u⟩:=x;obtain⟨_,e',he',hsame,_⟩:=uz es.toList 0 i u hq;obtain⟨w',h1,h2,h3⟩:=hi.C4 (es':=(chg k v es.toList i).toArray) (cl':=cl) he P;refine⟨w',_,?_,h2,h3,hk⟩
     have e:(chg k v es.toList i).toArray=es.modify i (fun e:MapEntry=>{e with key:=k,val:=v}):=by
      apply Array.ext';rw[<-CZ];simp
     rw[e]at h1
     have hk0:((es[i]?).map (·.key)).getD k=e'.key:=by
      have:es[i]?=some e':=by simpa using he'
      simp[this]
     have hst:(Instr.keyThatStays e'.key k).run P w= .ok k w:=by
      unfold Instr.keyThatStays;rw[if_pos (C5 hsame)];rfl
     simp only[Instr.mapUpdate,Sem.run_bind,run_underlying hu,Result.andThen_ok,ko hi.fits he,run_checkKey hku hs _ (nB hq),run_findKey hku hs hq,hk0,hst,h1]
   ·cases hg
  ·cases hg
 ·exact hk.elim
def w8 (l:List MapEntry):Option (Nat×Value)->List MapEntry
 |some (i,_)=>l.eraseIdx i
 |none=>l
def tJ (P:Program) (t:TypeId) (m k:Value) (h:Hp):Option Hp:=
 match m with
 | .map (some r)=>(match h.f r with
  |some (.map es cl)=>(dq P t).bind fun x=>(gv x.2.1 k es.toList 0).map fun q=>h.put r (.map (w8 es.toList q).toArray cl)
  |_=>none)
 |_=>none
def mw (P:Program) (t:TypeId) (m k:Value) (h:Hp) (K:KH):Prop:=match tJ P t m k h with
 |some g=>K (.tuple #[]) g
 |none=>False
theorem wL {P:Program} {t:TypeId} {ats:Array TypeId} {ty:TypeId} {m k:Value} {h:Hp} {K:KH} (ht:ats[0]?=some t) (hk:mw P t m k h K):ir P (Builtin.delete_ ats ty #[m,k]) h K:=fun w hi=>by
 unfold mw at hk;split at hk
 ·rename_i g hg;unfold tJ at hg;split at hg
  ·rename_i r;split at hg
   ·rename_i es cl he;simp only[Option.bind_eq_some_iff,Option.map_eq_some_iff]at hg;obtain⟨⟨kt,kd,et⟩,hm,q,hq,rfl⟩:=hg;obtain⟨hu,hku,hs⟩:=mu hm;dsimp only at hq;obtain⟨w',h1,h2,h3⟩:=hi.C4 (es':=(w8 es.toList q).toArray) (cl':=cl) he P;refine⟨_,w',_,?_,h2,h3,hk⟩;have hgo:(getObj r).run P w= .ok (.map es cl) w:=ko hi.fits he;cases q with
    |none=>
     have e:(w8 es.toList none).toArray=es:=by apply Array.ext';simp[w8]
     rw[e]at h1;simp[Builtin.delete_,ht,run_underlying hu,hgo,run_checkKey hku hs _ (nB hq),run_findKey hku hs hq,h1]
    |some x=>
     obtain⟨i,u⟩:=x;have e:(w8 es.toList (some (i,u))).toArray=es.eraseIdxIfInBounds i:=by apply Array.ext';simp[w8]
     rw[e]at h1;simp[Builtin.delete_,ht,run_underlying hu,hgo,run_checkKey hku hs _ (nB hq),run_findKey hku hs hq,h1]
   ·cases hg
  ·cases hg
 ·exact hk.elim
theorem uA {P:Program} {t:TypeId} {h:Hp} {K:KH} (hk:K (.map (some h.n)) ((h.put h.n (.map #[] 0)).to (h.n+1))):ir P (Instr.makeMap t none) h K:=fun w hi=>by
 refine⟨_,_,_,?_,hi.push _,bG.push _ _,hk⟩;simp[Instr.makeMap,newObj,Sem.run,hi.1]
theorem Is.setIter {w:World} {h:Hp} (hi:Is w h) {r:Nat} {o o':Obj} (e:h.f r=some o):Is (Go.ChangeMaps.setBlock w r o') (h.put r o'):=by
 have h1:=hi.2 r _ e;have hlt:r<w.heap.size:=(Array.getElem?_eq_some_iff.1 h1).1;refine hi.set (g:=w.heap.setIfInBounds r o') e (by simp) (by simp[hlt]) (fun x hx=>?_);have:¬r=x:=fun e=>hx e.symm
 simp[Array.getElem?_setIfInBounds_ne this]
def yt (P:Program) (t:TypeId):Bool:=match P.underlying t with
 |some (.map _ _)=>true
 |_=>false
theorem An {P:Program} {t:TypeId} (h:yt P t=true):∃k e,P.underlying t=some (.map k e):=by
 unfold yt at h;split at h
 ·exact⟨_,_,by assumption⟩
 ·cases h
def yu (P:Program) (t:TypeId) (x:Value) (h:Hp) (K:KH):Prop:=yt P t=true/\match x with
 | .map (some m)=>(match h.f m with
  |some (.map _ cl)=>K (.pointer (some ⟨h.n,0,none⟩)) ((h.put h.n (.mapIter (some m) cl #[] cl)).to (h.n+1))
  |_=>False)
 |_=>False
theorem yw {P:Program} {t:TypeId} {x:Value} {h:Hp} {K:KH} (hk:yu P t x h K):ir P (Instr.range t x) h K:=fun w hi=>by
 obtain⟨ht,hk⟩:=hk;obtain⟨k,e,hu⟩:=An ht;split at hk
 ·rename_i m;split at hk
  ·rename_i es cl he;refine⟨_,_,(h.put h.n (.mapIter (some m) cl #[] cl)).to (h.n+1),run_range_map w t k e m es cl hu (hi.2 _ _ he),?_,⟨rfl,rfl,rfl⟩,?_⟩
   ·exact hi.push _
   ·rw[hi.1];exact hk
  ·exact hk.elim
 ·exact hk.elim
def pe (es:List MapEntry) (seen:Array Nat):List MapEntry:=es.filter fun e=>!seen.contains e.born
theorem ph (es:Array MapEntry) (seen:Array Nat):(leftOf es seen).toList=pe es.toList seen:=by
 simp[leftOf,pe]
def sX (x:Value) (s:Bool) (h:Hp) (K:KH):Prop:=match x,s with
 | .pointer (some ⟨r,0,none⟩),false=>(match h.f r with
  |some (.mapIter (some m) since seen last)=>(match h.f m with
   |some (.map es cl)=>(∀e∈es.toList,e.born<since)/\since<=last/\(pe es.toList seen=[]->K (.tuple #[.bool false]) h)/\∀e∈pe es.toList seen,K (.tuple #[.bool true,e.key,e.val]) (h.put r (.mapIter (some m) since (seen.push e.born) cl))
   |_=>False)
  |_=>False)
 |_,_=>False
theorem Ao {P:Program} {ty:TypeId} {x:Value} {s:Bool} {h:Hp} {K:KH} (hk:sX x s h K):ir P (Instr.next x s ty) h K:=fun w hi=>by
 unfold sX at hk;split at hk
 ·rename_i r;split at hk
  ·rename_i m since seen last hr;split at hk
   ·rename_i es cl hm;obtain⟨h1,h2,h3,h4⟩:=hk;rcases run_next_at (P:=P) w ty r m since last seen es cl (hi.2 _ _ hr) (hi.2 _ _ hm) h1 h2 with⟨h0,hrun⟩|⟨e,he,w1,hal,hrun⟩
    ·refine⟨_,w,h,hrun,hi,bG.refl w,h3 ?_⟩;rw[<-ph];exact List.eq_nil_of_length_eq_zero (by simpa using h0)
    ·rw[ph]at he;have hi1:Is w1 h:=by rcases hal with rfl|rfl<;>exact hi
     have hs1:bG w w1:=by rcases hal with rfl|rfl<;>exact⟨rfl,rfl,rfl⟩
     exact⟨_,_,_,hrun,hi1.setIter hr,hs1.trans ⟨rfl,rfl,rfl⟩,h4 e he⟩
   ·exact hk.elim
  ·exact hk.elim
 ·exact hk.elim
def my (x:Value) (h:Hp) (K:Value->Prop):Prop:=match x with
 | .pointer (some ⟨r,0,none⟩)=>(match h.f r with
  |some (.mapIter (some m) _ seen last)=>(match h.f m,seen.back? with
   |some (.map es cl),some b=>(match es.find? (·.born==b)with
    |some e=>cl=last/\K (.tuple #[e.key,e.val])
    |none=>False)
   |_,_=>False)
  |_=>False)
 |_=>False
theorem yx {P:Program} {x:Value} {h:Hp} {K:Value->Prop} (hk:my x h K):PG P (Instr.entry x) h K:=by
 unfold my at hk;split at hk
 ·rename_i r;split at hk
  ·rename_i m since seen last hr;split at hk
   ·rename_i es cl b hm hb;split at hk
    ·rename_i e he;obtain⟨rfl,hk⟩:=hk;refine .here (fun w hi=>?_) hk;have g1:=hi _ _ hr;have g2:=hi _ _ hm;simp only[Instr.entry,getObj,Sem.run_bind,Sem.run,g1,g2,Result.andThen,hb,bne_self_eq_false,Bool.false_eq_true,if_false,he];rfl
    ·exact hk.elim
   ·exact hk.elim
  ·exact hk.elim
 ·exact hk.elim
def bW (P:Program) (f:FuncId):Bool:=match P.funcs[f]? with
 |some fn=>!(fn.name== "runtime.NumGoroutine")&&fn.body.isSome
 |none=>false
theorem mz {P:Program} {f:FuncId} (hc:bW P f=true) (args:Array Value) (w:World):(callFunc f args).run P w= .ok (.enter f args) w:=by
 unfold bW at hc;split at hc
 ·rename_i fn hf;simp only[Bool.and_eq_true,Bool.not_eq_true']at hc
  have hb:fn.body.isNone=false:=by
   cases hb:fn.body with
   |none=>rw[hb]at hc;simp at hc
   |some c=>rfl
  have hn:fn.body≠none:=fun e=>by rw[e]at hb;cases hb
  have h1:¬fn.name= "runtime.NumGoroutine" :=by simpa using hc.1
  simp[callFunc,hf,h1,hn]
 ·cases hc
def dj (P:Program) (f:FuncId) (args:Array Value) (h:Hp) (K:KH):Prop:=bW P f=true/\um P f args h K
def Tu (P:Program) (f:FuncId) (args:Array Value) (h:Hp) (v:Value):Prop:=bW P f=true/\∀n,h.n<=n->um P f args (h.to n) fun u g=>u=v/\∃k,n<=k/\g=h.to k
def w9 (P:Program) (f:Value) (args:Array Value) (h:Hp) (K:KH):Prop:=
 match f with
 | .func (.func g) first captured=>dj P g (first++args++captured) h K
 |_=>False
def PV (P:Program) (f:Value) (args:Array Value) (h:Hp) (K:Value->Prop):Prop:=
 match f with
 | .func (.func g) first captured=>∃v,Tu P g (first++args++captured) h v/\K v
 |_=>False
def dk (P:Program) (b:Builtin) (ts:List TypeId) (args:List Value) (h:Hp) (K:Value->Prop):Prop:=
 match b,ts,args with
 | .len,[t],[x]=>lD P t x h K
 | .min,_,[x,y]=>cn false x y K
 | .max,_,[x,y]=>cn true x y K
 | .min,_,[x,y,z]=>cn false x y fun u=>cn false u z K
 | .max,_,[x,y,z]=>cn true x y fun u=>cn true u z K
 |_,_,_=>False
def rF (K:KH):KH:=fun v h=>∃g,Sub g h/\K v g
theorem ir.VG {P:Program} {s:Sem Value} {h:Hp} {K:KH} (hg:ir P s h (rF K)):ir P s h K:=fun w hi=>by
 obtain⟨v,w',h',hr,hi',hs,g,hsub,hk⟩:=hg w hi;exact⟨v,w',g,hr,hi'.sub hsub,hs,hk⟩
def iz (P:Program) (b:Builtin) (ts:List TypeId) (args:List Value) (h:Hp) (K:KH):Prop:=
 match b,ts,args with
 | .append,[t,u],[s,x]=>iy P t u s x h (rF K)
 | .copy,[t,_],[s,x]=>nz P t s x h K
 | .delete,[t,_],[m,k]=>mw P t m k h K
 |_,_,_=>False
def de (P:Program) (o:Op) (ρ:Env) (h:Hp) (K:Value->Prop):Prop:=
 match o with
 | .move x=>K (ρ.ev x)
 | .assign x=>K (ρ.ev x)
 | .pick c a b=>(match ρ.ev c with
  | .bool q=>K (if q=true then ρ.ev a else ρ.ev b)
  |_=>False)
 | .build t parts=>(match oD P t (parts.toList.map fun x=>(x.1,ρ.ev x.2))with
  |some r=>K (.agg r)
  |none=>False)
 | .load t a=>ki P t (ρ.ev a) h K
 | .nilCheck x=>(match ρ.ev x with
  | .pointer (some a)=>K (.pointer (some a))
  | .func (.func f) a b=>K (.func (.func f) a b)
  |_=>False)
 | .binOp op t x y _=>jn P op t (ρ.ev x) (ρ.ev y) h K
 | .unOp op _ x=>aun op (ρ.ev x) K
 | .makeFunc fn first captured=>K (.func fn (first.map ρ.ev) (captured.map ρ.ev))
 | .slice t x lo hi mx=>da P t (ρ.ev x) (lo.map ρ.ev) (hi.map ρ.ev) (mx.map ρ.ev) K
 | .fieldAddr s x i=>fw P s (ρ.ev x) i K
 | .field t x i=>pA P t (ρ.ev x) i K
 | .indexAddr t x ix=>cm P t (ρ.ev x) (ρ.ev ix) K
 | .index t x ix=>jD P t (ρ.ev x) (ρ.ev ix) K
 | .extract x i=>kj (ρ.ev x) i K
 | .lookup t m k ok=>fo P t (ρ.ev m) (ρ.ev k) ok h K
 | .entry it=>my (ρ.ev it) h K
 | .call c=>(match c.callee with
  | .builtin b=>dk P b c.argTypes.toList (c.args.toList.map ρ.ev) h K
  |_=>False)
 |_=>False
def nc (P:Program) (o:Op) (ρ:Env) (h:Hp) (K:KH):Prop:=
 match o with
 | .alloc e=>pB P e h K
 | .box e x=>G2 e (ρ.ev x).cells h K
 | .buildSlice t len parts=>(match dB P t len (parts.toList.map fun x=>(x.1,ρ.ev x.2))with
  |some (e,r)=>K (.slice (some ⟨h.n,0,none⟩) len len) ((h.put h.n (.cells r e (0,0))).to (h.n+1))
  |none=>False)
 | .store t a x=>ny P t (ρ.ev a) (ρ.ev x) h K
 | .convert src dst x=>gX P src dst (ρ.ev x) h K
 | .makeSlice t l c=>ux P t (ρ.ev l) (ρ.ev c) h K
 | .makeMap _ none=>K (.map (some h.n)) ((h.put h.n (.map #[] 0)).to (h.n+1))
 | .mapUpdate t m k x=>ji P t (ρ.ev m) (ρ.ev k) (ρ.ev x) h K
 | .insert t m k x=>ji P t (ρ.ev m) (ρ.ev k) (ρ.ev x) h K
 | .range t x=>yu P t (ρ.ev x) h K
 | .next it s=>sX (ρ.ev it) s h K
 | .call c=>(match c.callee with
  | .builtin b=>iz P b c.argTypes.toList (c.args.toList.map ρ.ev) h K
  | .value f=>w9 P (ρ.ev f) (c.args.map ρ.ev) h K
  |_=>False)
 |_=>False
def pE:Callee->Bool
 | .builtin .append=>true
 | .builtin .copy=>true
 | .builtin .delete=>true
 | .value _=>true
 |_=>false
def bM:Op->Bool
 | .alloc _| .box .. | .buildSlice .. | .store .. | .convert .. | .makeSlice .. | .makeMap .. | .mapUpdate .. | .insert .. | .range .. | .next .. =>true
 | .call c=>pE c.callee
 |_=>false
def bE (P:Program) (o:Op) (ρ:Env) (h:Hp) (K:KH):Prop:=if bM o=true then nc P o ρ h K else de P o ρ h fun v=>K v h
theorem nD {P:Program} {o:Oper} {ρ:Env} {h:Hp} {K:Value->Prop} (hk:de P o.op ρ h K):∃v,K v/\∀w,Fits w h->(execOp ρ.ev o).run P w= .ok (.value v) w:=by
 have lift:∀{s:Sem Value},PG P s h K->execOp ρ.ev o=(do pure (.value (<-s)))->∃v,K v/\∀w,Fits w h->(execOp ρ.ev o).run P w= .ok (.value v) w:=fun hp he=>
  let⟨v,hv,hr⟩:=hp
  ⟨v,hv,fun w hw=>by rw[he];simp only[Sem.run_bind,hr w hw,Result.andThen_ok];rfl⟩
 obtain⟨dst,op,ty,pos,after,guard⟩:=o;dsimp only at hk;unfold de at hk;split at hk
 case h_1=>exact⟨_,hk,fun w _=>rfl⟩
 case h_2=>exact⟨_,hk,fun w _=>rfl⟩
 case h_3=>
  split at hk
  ·rename_i q hq;exact⟨_,hk,fun w _=>by simp[execOp,hq,asBool]⟩
  ·exact hk.elim
 case h_4=>
  rename_i t parts;split at hk
  ·rename_i r hr;refine lift (s:=Instr.build t (parts.map fun(i,x)=>(i,ρ.ev x))) (.here (fun w _=>wI ?_ w) hk) rfl
   simpa using hr
  ·exact hk.elim
 case h_5=>exact lift (sS hk) rfl
 case h_6=>
  split at hk
  ·rename_i a ha;exact⟨_,hk,fun w _=>by simp[execOp,ha]⟩
  ·rename_i f a b ha;exact⟨_,hk,fun w _=>by simp[execOp,ha]⟩
  ·exact hk.elim
 case h_7=>exact lift (Ad hk) rfl
 case h_8=>exact lift (G1 hk) rfl
 case h_9=>exact⟨_,hk,fun w _=>rfl⟩
 case h_10=>exact lift (yo hk) rfl
 case h_11=>exact lift (rB hk) rfl
 case h_12=>exact lift (yl hk) rfl
 case h_13=>exact lift (rC hk) rfl
 case h_14=>exact lift (ym hk) rfl
 case h_15=>exact lift (ur hk) rfl
 case h_16=>exact lift (wK hk) rfl
 case h_17=>exact lift (yx hk) rfl
 case h_18=>
  rename_i c;split at hk
  ·rename_i b hb
   have hex:execOp ρ.ev ⟨dst,.call c,ty,pos,after,guard⟩=builtin b c.argTypes ty (c.args.map fun| .const _=>true|_=>false) (c.args.map ρ.ev):=by
    obtain⟨callee,args,ats⟩:=c;dsimp only at hb;subst hb;rfl
   have arr:∀{l:List Value},c.args.toList.map ρ.ev=l->c.args.map ρ.ev=l.toArray:=fun e=>by
    apply Array.ext';simpa using e
   have arrT:∀{l:List TypeId},c.argTypes.toList=l->c.argTypes=l.toArray:=fun e=>by
    apply Array.ext';simpa using e
   unfold dk at hk;split at hk
   ·rename_i e1 e2;exact lift (CW hk) (by rw[hex,arr e2,arrT e1];rfl)
   ·rename_i e2;exact lift (CX hk) (by rw[hex,arr e2];rfl)
   ·rename_i e2;exact lift (CY hk) (by rw[hex,arr e2];rfl)
   ·rename_i e2;exact lift (Ai hk) (by rw[hex,arr e2];rfl)
   ·rename_i e2;exact lift (Aj hk) (by rw[hex,arr e2];rfl)
   ·exact hk.elim
  ·exact hk.elim
 case h_19=>exact hk.elim
inductive Ran (P:Program) (w:World) (K:KH):Result Next->Prop
 |value (v:Value) (w':World) (h':Hp) (hi:Is w' h') (hs:bG w w') (hk:K v h'):Ran P w K (.ok (.value v) w')
 |skip (w':World) (h':Hp) (hi:Is w' h') (hs:bG w w') (hk:K undef h'):Ran P w K (.ok .skip w')
 |enter (f:FuncId) (args:Array Value) (w':World) (h':Hp) (hi:Is w' h') (hs:bG w w') (hk:um P f args h' K):Ran P w K (.ok (.enter f args) w')
theorem ir.ran {P:Program} {s:Sem Value} {h:Hp} {K:KH} (hg:ir P s h K) {w:World} (hi:Is w h):Ran P w K ((do pure (.value (<-s)):Sem Next).run P w):=by
 obtain⟨v,w',h',hr,i,s',k⟩:=hg w hi;simp only[Sem.run_bind,hr,Result.andThen_ok];exact .value v w' h' i s' k
theorem Ap {P:Program} {o:Oper} {ρ:Env} {h:Hp} {K:KH} (hk:nc P o.op ρ h K) {w:World} (hi:Is w h):Ran P w K ((execOp ρ.ev o).run P w):=by
 have lift:∀{s:Sem Value},ir P s h K->execOp ρ.ev o=(do pure (.value (<-s)))->Ran P w K ((execOp ρ.ev o).run P w):=fun hg he=>by
  rw[he];exact hg.ran hi
 obtain⟨dst,op,ty,pos,after,guard⟩:=o;dsimp only at hk;unfold nc at hk;split at hk
 case h_1=>exact lift (yn hk) rfl
 case h_2=>exact lift (uu hk) rfl
 case h_3=>
  rename_i t len parts;split at hk
  ·rename_i e r hr;have hp:(parts.map fun(i,x)=>(i,ρ.ev x)).toList=parts.toList.map fun x=>(x.1,ρ.ev x.2):=by simp
   rw[<-hp]at hr;have hg:ir P (Instr.buildSlice t len (parts.map fun(i,x)=>(i,ρ.ev x))) h K:=pC hr hk;exact lift hg rfl
  ·exact hk.elim
 case h_4=>
  rename_i t a x;obtain⟨w',h',hr,i,s,k⟩:=yk hk w hi
  have:(execOp ρ.ev ⟨dst,.store t a x,ty,pos,after,guard⟩).run P w= .ok .skip w':=by
   simp only[execOp,Sem.run_bind,hr,Result.andThen_ok];rfl
  rw[this];exact .skip w' h' i s k
 case h_5=>exact lift (Ae hk) rfl
 case h_6=>exact lift (Ag hk) rfl
 case h_7=>exact lift (uA hk) rfl
 case h_8=>
  rename_i t m k x;obtain⟨w',h',hr,i,s,k'⟩:=pc hk w hi
  have:(execOp ρ.ev ⟨dst,.mapUpdate t m k x,ty,pos,after,guard⟩).run P w= .ok .skip w':=by
   simp only[execOp,Sem.run_bind,hr,Result.andThen_ok];rfl
  rw[this];exact .skip w' h' i s k'
 case h_9=>
  rename_i t m k x;obtain⟨w',h',hr,i,s,k'⟩:=pc hk w hi
  have:(execOp ρ.ev ⟨dst,.insert t m k x,ty,pos,after,guard⟩).run P w= .ok .skip w':=by
   simp only[execOp,Sem.run_bind,hr,Result.andThen_ok];rfl
  rw[this];exact .skip w' h' i s k'
 case h_10=>exact lift (yw hk) rfl
 case h_11=>exact lift (Ao hk) rfl
 case h_12=>
  rename_i c;obtain⟨callee,args,ats⟩:=c;dsimp only at hk;split at hk
  ·rename_i b
   have arr:∀{l:List Value},args.toList.map ρ.ev=l->args.map ρ.ev=l.toArray:=fun e=>by
    apply Array.ext';simpa using e
   have arrT:∀{l:List TypeId},ats.toList=l->ats=l.toArray:=fun e=>by
    apply Array.ext';simpa using e
   have hex:execOp ρ.ev ⟨dst,.call {callee:= .builtin b,args:=args,argTypes:=ats},ty,pos,after,guard⟩=builtin b ats ty (args.map fun| .const _=>true|_=>false) (args.map ρ.ev):=rfl
   unfold iz at hk;split at hk
   ·rename_i e1 e2;exact lift (wJ hk).VG (by rw[hex,arr e2,arrT e1];rfl)
   ·rename_i e1 e2;exact lift (Ah rfl hk) (by rw[hex,arr e2,arrT e1];rfl)
   ·rename_i e1 e2;exact lift (wL rfl hk) (by rw[hex,arr e2,arrT e1];rfl)
   ·exact hk.elim
  ·rename_i f;unfold w9 at hk;split at hk
   ·rename_i g first captured hf
    have:(execOp ρ.ev ⟨dst,.call {callee:= .value f,args:=args,argTypes:=ats},ty,pos,after,guard⟩).run P w= .ok (.enter g (first++args.map ρ.ev++captured)) w:=by
     simp only[execOp,resolve,hf,Deferred.ofValue,invoke,Sem.run_bind,Sem.run_pure,Result.andThen_ok,mz hk.1]
    rw[this];exact .enter g _ w h hi (bG.refl w) hk.2
   ·exact hk.elim
  ·exact hk.elim
 case h_13=>exact hk.elim
theorem jo {P:Program} {o:Oper} {ρ:Env} {h:Hp} {K:KH} (hk:bE P o.op ρ h K) {w:World} (hi:Is w h):Ran P w K ((execOp ρ.ev o).run P w):=by
 unfold bE at hk;split at hk
 ·exact Ap hk hi
 ·obtain⟨v,hv,hr⟩:=nD hk;rw[hr w hi.fits];exact .value v w h hi (bG.refl w) hv
theorem Ran.wp {P:Program} {o:Oper} {a:Act} {w w0:World} {K:KH} {N:Act->World->Prop} {Q:Exit->Act->World->Prop} (hr:Ran P w K ((execOp a.eval o).run P w)) (hs:bG w0 w)
 (hn:∀v h' w',Is w' h'->bG w0 w'->K v h'->N (a.put o.dst v) w'):o.wp P a w N Q:=by
 unfold Oper.wp;generalize (execOp a.eval o).run P w=r at hr;cases hr with
 |value v w' h' hi hs' hk=>exact hn v h' w' hi (hs.trans hs') hk
 |skip w' h' hi hs' hk=>exact hn undef h' w' hi (hs.trans hs') hk
 |enter f args w' h' hi hs' hk=>
  exact(hk w' hi).mono fun e w'' ⟨v,g,he,hi'',hs'',hk'⟩=>by
   subst he;exact hn v g w'' hi'' ((hs.trans hs').trans hs'') hk'
def jq (ops:Array Oper) (j:Nat):Option Nat:=(ops[j]?).bind (·.dst)
def kp (P:Program) (ops:Array Oper):List Oper->Env->Hp->(Env->Hp->Prop)->Prop
 | [],ρ,h,N=>N ρ h
 |o::l,ρ,h,N=>(match o.guard with
  |none=>bE P o.op ρ h fun v h'=>kp P ops l (ρ.put o.dst v) h' N
  |some (j,want)=>(match jq ops j with
   |none=>False
   |some t=>(match ρ t with
    | .bool q=>Br (q==want) (bE P o.op (ρ.upd t (.bool want)) h fun v h'=>kp P ops l ((ρ.upd t (.bool want)).put o.dst v) h' N)
     (kp P ops l ((ρ.upd t (.bool (!want))).put o.dst undef) h N)
    | .tuple _=>kp P ops l (ρ.put o.dst undef) h N
    |_=>False)))
theorem mA {ρ:Env} {t:Nat} {v:Value} (h:ρ t=v):ρ.upd t v=ρ:=by
 funext x;simp only[Env.upd];split
 ·rename_i e;rw[e,h]
 ·rfl
theorem pF {n:Nat} {a:Act} {ρ:Env} (hr:Rel n a ρ) (ops:Array Oper) {j t:Nat} (hg:jq ops j=some t):yielded ops a.tmps j=(match ρ t with| .bool b=>some b|_=>none):=by
 have h1:=hr.2.2 t;unfold yielded;unfold jq at hg;rw[hg];simp only[Option.bind_some];rw[<-h1];simp only[Array.getD_eq_getD_getElem?];cases a.tmps[t]? with
 |none=>simp[undef]
 |some v=>cases v<;>rfl
def fU (ds:List Nat) (ρ0 ρ:Env):Prop:=∀t,ds.contains t=false->ρ t=ρ0 t
theorem fU.put {ds:List Nat} {ρ0 ρ:Env} (hk:fU ds ρ0 ρ) {d:Option Nat} (hd:∀t,d=some t->ds.contains t=true) (v:Value):fU ds ρ0 (ρ.put d v):=by
 intro t ht;cases d with
 |none=>exact hk t ht
 |some d=>
  have:t≠d:=fun e=>by subst e;rw[hd _ rfl]at ht;cases ht
  simp only[Env.put,Env.upd,if_neg this];exact hk t ht
section
variable {P:Program} {C C':Value->Prop}
structure One (F:(Value->Prop)->Prop):Prop where
 mono:∀{C C':Value->Prop},(∀v,C v->C' v)->F C->F C'
 both:∀{C C':Value->Prop},F C->F C'->∃u,C u/\C' u/\F (fun v=>v=u)
theorem One.ap (v:Value):One (fun C=>C v):=⟨fun h k=>h _ k,fun h k=>⟨v,h,k,rfl⟩⟩
theorem One.false:One (fun _=>False):=⟨fun _ h=>h.elim,fun h=>h.elim⟩
theorem One.and {p:Prop} {F:(Value->Prop)->Prop} (hf:One F):One (fun C=>p/\F C):=
 ⟨fun h k=>⟨k.1,hf.mono h k.2⟩,fun h k=>let⟨u,h1,h2,h3⟩:=hf.both h.2 k.2;⟨u,h1,h2,h.1,h3⟩⟩
theorem Nb (op:BinOp) (t:TypeId) (x y:Value):One (kh P op t x y):=by
 unfold kh;cases x<;>cases y<;>try exact One.false
 case int.int=>cases op<;>first|exact .and (.and (.ap _))|exact .and (.ap _)
 case string.string=>cases op<;>first|exact .and (.ap _)|exact .ap _|exact .false
 case bool.bool=>cases op<;>first|exact .and (.ap _)|exact .false
 case pointer.pointer p q=>
  cases q with
  |some a=>exact .false
  |none=>
   cases op<;>try exact One.false
   all_goals(cases P.underlying t with
    |none=>exact .false
    |some d=>cases d<;>first|exact .ap _|exact .false)
 case slice.slice p n c q n' c'=>
  cases q with
  |some a=>exact .false
  |none=>
   cases op<;>try exact One.false
   all_goals(cases P.underlying t with
    |none=>exact .false
    |some d=>cases d<;>first|exact .ap _|exact .false)
 case agg.agg xs ys=>
  dsimp only;cases uo P t xs ys with
  |none=>cases op<;>exact .false
  |some q=>cases op<;>first|exact .ap _|exact .false
theorem Jl (op:BinOp) (t:TypeId) (x y:Value) (h:Hp):One (jn P op t x y h):=by
 unfold jn;split
 ·unfold G3;split
  ·exact .and (.and (.ap _))
  ·exact .and (.and (.ap _))
  ·exact .false
 ·exact Nb _ _ _ _
theorem QS (op:UnOp) (x:Value):One (aun op x):=by
 unfold aun;cases op<;>cases x<;>first|exact .ap _|exact .false
theorem Jm (t:TypeId) (a:Value) (h:Hp):One (ki P t a h):=by
 unfold ki;split
 ·rename_i b o;cases h.f b with
  |none=>exact .false
  |some x=>
   cases x<;>try exact One.false
   rename_i c e fz;cases m8 P t with
   |none=>exact .false
   |some q=>
    cases q
    ·dsimp only;cases c[o]?<;>first|exact .false|exact .ap _
    ·dsimp only;cases aB P t with
     |none=>exact .false
     |some n=>
      dsimp only;cases cG c o n<;>first|exact .false|exact .ap _
 ·exact .false
theorem wM (s:TypeId) (a:Value) (i:Nat):One (fw P s a i):=by
 unfold fw;split
 ·exact .ap _
 ·exact .false
theorem Aq (t:TypeId) (cs:Array Value) (off:Nat):One (mo P t cs off):=by
 unfold mo;cases m8 P t with
 |none=>exact .false
 |some q=>
  cases q
  ·dsimp only;cases cs[off]?<;>first|exact .false|exact .ap _
  ·dsimp only;cases aB P t<;>first|exact .false|exact .ap _
theorem G5 (s:TypeId) (x:Value) (i:Nat):One (pA P s x i):=by
 unfold pA;split
 ·exact Aq _ _ _
 ·exact .false
theorem wN (t:TypeId) (x ix:Value):One (cm P t x ix):=by
 unfold cm;split
 ·split
  ·refine .and (.and ?_);cases aB P _<;>first|exact .false|exact .ap _
  ·refine .and (.and ?_);cases aB P _<;>first|exact .false|exact .ap _
  ·exact .false
 ·exact .false
theorem G6 (t:TypeId) (x ix:Value):One (jD P t x ix):=by
 unfold jD;split
 ·split
  ·refine .and (.and ?_);cases aB P _<;>first|exact .false|exact Aq _ _ _
  ·refine .and ?_;rename_i i _ _ s _;cases s.toList[i.toNat]?<;>first|exact .false|exact .ap _
  ·exact .false
 ·exact .false
theorem Ar (x:Value) (i:Nat):One (kj x i):=by
 unfold kj;split
 ·rename_i vs;cases vs[i]?<;>first|exact .false|exact .ap _
 ·exact .false
theorem Nc (t:TypeId) (x:Value) (h:Hp):One (lD P t x h):=by
 unfold lD;split
 ·exact .ap _
 ·exact .ap _
 ·exact .ap _
 ·exact .ap _
 ·split
  ·exact .ap _
  ·exact .false
 ·exact .false
theorem Jn (q:Bool) (x y:Value):One (cn q x y):=by
 unfold cn;split
 ·exact .ap _
 ·exact .false
theorem ET (q:Bool) (x y z:Value):One fun K=>cn q x y fun u=>cn q u z K:=by
 unfold cn;split
 ·dsimp only;split
  ·exact .ap _
  ·exact .false
 ·exact .false
theorem C6 (t:TypeId) (m k:Value) (ok:Bool) (h:Hp):One (fo P t m k ok h):=by
 unfold fo;cases jT P t m k ok h<;>first|exact .false|exact .ap _
theorem G7 (x:Value) (h:Hp):One (my x h):=by
 unfold my;split
 ·split
  ·split
   ·split
    ·exact .and (.ap _)
    ·exact .false
   ·exact .false
  ·exact .false
 ·exact .false
theorem G8 (t:TypeId) (x:Value) (lo hi mx:Option Value):One (da P t x lo hi mx):=by
 unfold da;split
 ·refine .and (.and ?_);split
  ·exact .and (.and (.and (.ap _)))
  ·exact .false
 ·split
  ·split
   ·exact .and (.and (.and (.and (.and (.ap _)))))
   ·exact .false
  ·exact .false
 ·exact .false
theorem gA (o:Op) (ρ:Env) (h:Hp):One (de P o ρ h):=by
 unfold de;split
 ·exact .ap _
 ·exact .ap _
 ·split
  ·exact .ap _
  ·exact .false
 ·split
  ·exact .ap _
  ·exact .false
 ·exact Jm _ _ _
 ·split
  ·exact .ap _
  ·exact .ap _
  ·exact .false
 ·exact Jl _ _ _ _ _
 ·exact QS _ _
 ·exact .ap _
 ·exact G8 _ _ _ _ _
 ·exact wM _ _ _
 ·exact G5 _ _ _
 ·exact wN _ _ _
 ·exact G6 _ _ _
 ·exact Ar _ _
 ·exact C6 _ _ _ _ _
 ·exact G7 _ _
 ·split
  ·unfold dk;split
   ·exact Nc _ _ _
   ·exact Jn _ _ _
   ·exact Jn _ _ _
   ·exact ET _ _ _ _
   ·exact ET _ _ _ _
   ·exact .false
  ·exact .false
 ·exact .false
end
structure Mono (F:KH->Prop):Prop where
 mono:∀{K K':KH},(∀v h,K v h->K' v h)->F K->F K'
section
variable {P:Program}
theorem Mono.ap (v:Value) (h:Hp):Mono (fun K=>K v h):=⟨fun m k=>m _ _ k⟩
theorem Mono.false:Mono (fun _=>False):=⟨fun _ h=>h.elim⟩
theorem Mono.and {p:Prop} {F:KH->Prop} (hf:Mono F):Mono (fun K=>p/\F K):=⟨fun h k=>⟨k.1,hf.mono h k.2⟩⟩
theorem One.toMono {F:(Value->Prop)->Prop} (hf:One F) (h:Hp):Mono (fun K=>F fun v=>K v h):=⟨fun m k=>hf.mono (fun v hv=>m v h hv) k⟩
theorem G9 (s d:TypeId) (x:Value) (h:Hp):Mono (gX P s d x h):=⟨fun{K K'} m k=>by
 unfold gX at*;split at k
 ·split at k
  ·exact m _ _ k
  ·exact k.elim
 ·split at k
  ·exact m _ _ k
  ·exact⟨k.1,fun cap hc=>m _ _ (k.2 cap hc)⟩
  ·exact k.elim
 ·split at k
  ·refine⟨k.1,?_⟩;have k2:=k.2;split at k2
   ·exact m _ _ k2
   ·split at k2
    ·split at k2
     ·exact m _ _ k2
     ·exact k2.elim
    ·exact k2.elim
   ·exact k2.elim
  ·exact k.elim
 ·exact k.elim⟩
theorem C7 (t:TypeId) (a v:Value) (h:Hp):Mono (ny P t a v h):=by
 unfold ny;split
 ·split
  ·exact .and (.and (.and (.and (.ap _ _))))
  ·exact .false
 ·exact .false
theorem Ha (t:TypeId) (l c:Value) (h:Hp):Mono (ux P t l c h):=by
 unfold ux;split
 ·split
  ·split
   ·exact .and (.and (.and (.and (.ap _ _))))
   ·exact .false
  ·exact .false
 ·exact .false
theorem Hb (t:TypeId) (d x:Value) (h:Hp):Mono (nz P t d x h):=by
 unfold nz;split
 ·split
  ·split
   ·split
    ·split
     ·exact .ap _ _
     ·split
      ·exact .and (.and (.and (.ap _ _)))
      ·exact .false
     ·exact .false
    ·exact .false
   ·exact .false
  ·exact .false
 ·exact .false
theorem As (t u:TypeId) (s x:Value) (h:Hp):Mono (iy P t u s x h):=⟨fun{K K'} m k=>by
 unfold iy at*;split at k
 ·obtain⟨e,dx,k1,by',z,n,new,h1,h2,h3,h4,h5,h6,h7,h8,h9,h10,h11⟩:=k;refine⟨e,dx,k1,by',z,n,new,h1,h2,h3,h4,h5,h6,h7,h8,h9,fun hl=>?_,fun hl=>?_⟩
  ·have:=h10 hl;unfold sV at*;split at this
   ·exact m _ _ this
   ·split at this
    ·exact⟨this.1,this.2.1,this.2.2.1,m _ _ this.2.2.2⟩
    ·exact this.elim
   ·exact this.elim
  ·obtain⟨a1,old,a2,a3⟩:=h11 hl;exact⟨a1,old,a2,fun cap hc=>m _ _ (a3 cap hc)⟩
 ·exact k.elim⟩
theorem yy (t u:TypeId) (s x:Value) (h:Hp):Mono (fun K=>iy P t u s x h (rF K)):=⟨fun m k=>(As t u s x h).mono (fun v g ⟨g',hs,hk⟩=>⟨g',hs,m _ _ hk⟩) k⟩
theorem Hc (f:Value) (args:Array Value) (h:Hp):Mono (w9 P f args h):=⟨fun{K K'} m k=>by
 unfold w9 at*;split at k
 ·exact⟨k.1,k.2.mono m⟩
 ·exact k.elim⟩
theorem Hd (o:Op) (ρ:Env) (h:Hp):Mono (nc P o ρ h):=by
 unfold nc;split
 ·unfold pB;split
  ·exact .ap _ _
  ·exact .false
 ·exact .ap _ _
 ·split
  ·exact .ap _ _
  ·exact .false
 ·exact C7 _ _ _ _
 ·exact G9 _ _ _ _
 ·exact Ha _ _ _ _
 ·exact .ap _ _
 ·unfold ji;split
  ·exact .ap _ _
  ·exact .false
 ·unfold ji;split
  ·exact .ap _ _
  ·exact .false
 ·unfold yu;refine .and ?_;split
  ·split
   ·exact .ap _ _
   ·exact .false
  ·exact .false
 ·unfold sX;split
  ·split
   ·split
    ·exact⟨fun m k=>⟨k.1,k.2.1,fun q=>m _ _ (k.2.2.1 q),fun e he=>m _ _ (k.2.2.2 e he)⟩⟩
    ·exact .false
   ·exact .false
  ·exact .false
 ·split
  ·unfold iz;split
   ·exact yy _ _ _ _ _
   ·exact Hb _ _ _ _
   ·unfold mw;split
    ·exact .ap _ _
    ·exact .false
   ·exact .false
  ·exact Hc _ _ _
  ·exact .false
 ·exact .false
theorem xa (o:Op) (ρ:Env) (h:Hp):Mono (bE P o ρ h):=by
 unfold bE;split
 ·exact Hd _ _ _
 ·exact(gA _ _ _).toMono h
end
def uB (P:Program) (t:TypeId):Bool:=match P.underlying t with
 |some (.pointer _)=>true
 |_=>false
def QT:BinOp->Bool
 | .eql| .neq=>true
 |_=>false
def yz (P:Program) (ts:Array TypeId):Bool:=match ts.toList with
 | [t]=>(match P.underlying t with
  |some (.map _ _)=>false
  |_=>true)
 |_=>false
def pG (P:Program):Op->Bool
 | .move _| .assign _| .pick .. | .build .. | .nilCheck _| .unOp .. | .makeFunc .. | .slice .. | .fieldAddr .. | .field .. | .indexAddr .. | .index .. | .extract .. =>true
 | .binOp op t _ _ _=>!(QT op&&uB P t)
 | .call c=>(match c.callee with
  | .builtin .min| .builtin .max=>true
  | .builtin .len=>yz P c.argTypes
  |_=>false)
 |_=>false
def gG (o:Op):Bool:=!bM o
section
variable {P:Program} {ops:Array Oper}
theorem C8 {op:BinOp} {t:TypeId} {x y:Value} {h h':Hp} {C:Value->Prop} (hn:QT op=true->uB P t=true->False) (k:jn P op t x y h C):jn P op t x y h' C:=by
 unfold jn at*;split
 ·rename_i a b;dsimp only at k;unfold G3 at k;split at k
  ·rename_i e k' hu;exact(hn rfl (by unfold uB;rw[hu])).elim
  ·rename_i e k' hu;exact(hn rfl (by unfold uB;rw[hu])).elim
  ·exact k.elim
 ·rename_i hne;split at k
  ·rename_i a b;exact(hne a b rfl rfl).elim
  ·exact k
theorem qt {o:Op} (hc:pG P o=true) (ρ:Env) (h h':Hp) (C:Value->Prop):de P o ρ h C->de P o ρ h' C:=by
 intro k;cases o
 case call c=>
  obtain⟨callee,args,ats⟩:=c;cases callee with
  |builtin b=>
   cases b
   case len=>
    have hc:yz P ats=true:=hc;have k:dk P .len ats.toList (args.toList.map ρ.ev) h C:=k;show dk P .len ats.toList (args.toList.map ρ.ev) h' C;unfold yz at hc;split at hc
    ·rename_i t ht;rw[ht]at k⊢;rcases hx:args.toList.map ρ.ev with _|⟨x,_|⟨y,r⟩⟩
     ·rw[hx]at k;exact k
     ·rw[hx]at k;have k:lD P t x h C:=k;show lD P t x h' C;unfold lD at*;split at hc
      ·cases hc
      ·rename_i hnm;split at k
       ·exact k
       ·exact k
       ·exact k
       ·rename_i e1 _;exact(hnm _ _ e1).elim
       ·rename_i e1 _;exact(hnm _ _ e1).elim
       ·exact k.elim
     ·rw[hx]at k;exact k
    ·cases hc
   all_goals first|(rcases args with⟨_|⟨x,_|⟨y,_|⟨z,_|⟨w,r⟩⟩⟩⟩⟩<;>exact k)|(exfalso;revert hc;simp[pG])
  |_=>cases hc
 case binOp op t x y t'=>
  have hn:QT op=true->uB P t=true->False:=fun h1 h2=>by
   simp only[pG,h1,h2,Bool.and_self,Bool.not_true]at hc;cases hc
  exact C8 hn k
 all_goals first|exact k|cases hc
theorem mB {o:Op} (hc:pG P o=true):gG o=true:=by
 cases o
 case call c=>
  obtain⟨callee,args,ats⟩:=c;cases callee with
  |builtin b=>cases b<;>first|rfl|cases hc
  |_=>cases hc
 all_goals first|rfl|cases hc
def aX (P:Program) (ops:Array Oper) (o:Oper) (ρ:Env) (h:Hp) (K:Env->Hp->Prop):Prop:=
 match o.guard with
 |none=>bE P o.op ρ h fun v h'=>K (ρ.put o.dst v) h'
 |some (j,want)=>(match jq ops j with
  |none=>False
  |some t=>(match ρ t with
   | .bool q=>if q=want then bE P o.op ρ h (fun v h'=>K (ρ.put o.dst v) h')else K (ρ.put o.dst undef) h
   | .tuple _=>K (ρ.put o.dst undef) h
   |_=>False))
theorem mC {o:Oper} {l:List Oper} {ρ:Env} {h:Hp} {N:Env->Hp->Prop} (hk:kp P ops (o::l) ρ h N):aX P ops o ρ h fun ρ' h'=>kp P ops l ρ' h' N:=by
 unfold kp at hk;unfold aX;split at hk
 ·rename_i hg;(try simp only[hg]);exact hk
 ·rename_i j want hg
  (try simp only[hg])
  split at hk
  ·exact hk.elim
  ·rename_i t ht
   (try simp only[ht])
   split at hk
   ·rename_i q hq
    (try simp only[hq])
    rcases ER hk with⟨hqw,hk2⟩|⟨hqw,hk2⟩
    ·have e:q=want:=by simpa using hqw
     rw[if_pos e];rw[mA (by rw[hq,e])]at hk2;exact hk2
    ·have e:q=!want:=by cases q<;>cases want<;>simp_all
     rw[if_neg (by rw[e];cases want<;>simp)];rw[mA (by rw[hq,e])]at hk2;exact hk2
   ·rename_i vs hq
    (try simp only[hq]);exact hk
   ·exact hk.elim
theorem eO {o:Oper} {ρ:Env} {h:Hp} {K K':Env->Hp->Prop} (m:∀v h',K (ρ.put o.dst v) h'->K' (ρ.put o.dst v) h') (hk:aX P ops o ρ h K):aX P ops o ρ h K':=by
 unfold aX at*;split at hk
 ·rename_i hg;exact(xa _ _ _).mono (fun v h'=>m v h') hk
 ·rename_i j want hg;split at hk
  ·exact hk.elim
  ·rename_i t ht;split at hk
   ·split at hk
    ·rename_i e;rw[if_pos e];exact(xa _ _ _).mono (fun v h'=>m v h') hk
    ·rename_i e;rw[if_neg e];exact m _ _ hk
   ·exact m _ _ hk
   ·exact hk.elim
def looks (ops:Array Oper) (o:Oper):List Nat:=o.looksAt ops
theorem lE {ρ:Env} {d:Option Nat} {v:Value} {t:Nat} (h:∀x,d=some x->x≠t):(ρ.put d v) t=ρ t:=by
 cases d with
 |none=>rfl
 |some x=>simp[Env.put,Env.upd,Ne.symm (h x rfl)]
theorem put_comm {ρ:Env} {d e:Option Nat} (hne:∀x,d=some x->e≠some x) (v u:Value):(ρ.put d v).put e u=(ρ.put e u).put d v:=by
 cases d with
 |none=>rfl
 |some x=>
  cases e with
  |none=>rfl
  |some y=>
   have:x≠y:=fun q=>hne x rfl (q▸rfl)
   funext t;simp only[Env.put,Env.upd];by_cases h1:t=y
   ·subst h1;simp[Ne.symm this]
   ·simp[h1]
theorem Au {ρ ρ':Env} {x:Operand} (h:∀t,x= .tmp t->ρ' t=ρ t):ρ'.ev x=ρ.ev x:=by
 cases x with
 |tmp t=>exact h t rfl
 |_=>rfl
theorem kW {o:Op} {ρ ρ':Env} (hs:∀x∈o.operands,ρ'.ev x=ρ.ev x) (h:Hp) (K:KH):bE P o ρ' h K=bE P o ρ h K:=by
 have pairs:∀ps:Array (Nat×Operand),(∀x∈(ps.toList.map (·.2)),ρ'.ev x=ρ.ev x)->(ps.toList.map fun x=>(x.1,ρ'.ev x.2))=(ps.toList.map fun x=>(x.1,ρ.ev x.2)):=fun ps hp=>
  List.map_congr_left fun p hm=>by
   rw[hp p.2 (List.mem_map.2 ⟨p,hm,rfl⟩)]
 have opt:∀x:Option Operand,(∀y,x=some y->ρ'.ev y=ρ.ev y)->x.map ρ'.ev=x.map ρ.ev:=fun x hx=>by
  cases x with
  |none=>rfl
  |some y=>simp[hx y rfl]
 have arr:∀xs:Array Operand,(∀y∈xs,ρ'.ev y=ρ.ev y)->xs.map ρ'.ev=xs.map ρ.ev:=fun xs hx=>Array.map_congr_left hx
 have arrL:∀xs:Array Operand,(∀y∈xs,ρ'.ev y=ρ.ev y)->xs.toList.map ρ'.ev=xs.toList.map ρ.ev:=fun xs hx=>List.map_congr_left fun y hy=>hx y (by simpa using hy)
 unfold bE;cases o<;>simp only[Op.operands]at hs<;>simp only[bM,nc,de,if_true,if_false,Bool.false_eq_true]
 case move x=>rw[hs x (by simp)]
 case assign x=>rw[hs x (by simp)]
 case pick c a b=>rw[hs c (by simp),hs a (by simp),hs b (by simp)]
 case box e x=>rw[hs x (by simp)]
 case build t ps=>rw[pairs ps fun x hx=>hs x (by simpa using hx)]
 case buildSlice t n ps=>rw[pairs ps fun x hx=>hs x (by simpa using hx)]
 case insert t m k x=>rw[hs m (by simp),hs k (by simp),hs x (by simp)]
 case load t a=>rw[hs a (by simp)]
 case store t a x=>rw[hs a (by simp),hs x (by simp)]
 case nilCheck x=>rw[hs x (by simp)]
 case binOp op t x y t'=>rw[hs x (by simp),hs y (by simp)]
 case unOp op t x=>rw[hs x (by simp)]
 case convert s d x=>rw[hs x (by simp)]
 case makeFunc fn first captured=>rw[arr first fun x hx=>hs x (by simp[hx]),arr captured fun x hx=>hs x (by simp[hx])]
 case makeSlice t l c=>rw[hs l (by simp),hs c (by simp)]
 case makeMap t r=>cases r<;>simp only[nc]
 case slice t x lo hi mx=>
  rw[hs x (by simp),opt lo fun y hy=>hs y (by subst hy;simp),opt hi fun y hy=>hs y (by subst hy;simp),opt mx fun y hy=>hs y (by subst hy;simp)]
 case fieldAddr s x i=>rw[hs x (by simp)]
 case field s x i=>rw[hs x (by simp)]
 case indexAddr t x i=>rw[hs x (by simp),hs i (by simp)]
 case index t x i=>rw[hs x (by simp),hs i (by simp)]
 case lookup t x i ok=>rw[hs x (by simp),hs i (by simp)]
 case mapUpdate t m k x=>rw[hs m (by simp),hs k (by simp),hs x (by simp)]
 case extract x i=>rw[hs x (by simp)]
 case range t x=>rw[hs x (by simp)]
 case next x q=>rw[hs x (by simp)]
 case entry x=>rw[hs x (by simp)]
 case call c=>
  obtain⟨callee,args,ats⟩:=c;have ha:∀y∈args,ρ'.ev y=ρ.ev y:=fun y hy=>hs y (by simp[Call.operands,hy])
  cases callee with
  |value f=>
   (try simp only[pE,if_true,nc])
   rw[arr args ha,hs f (by simp[Call.operands])]
  |invoke r m=>simp only[pE,de,Bool.false_eq_true,if_false]
  |builtin b=>
   (try simp only[nc,de])
   rw[arrL args ha]
theorem nE {o:Oper} {d:Option Nat} (hl:∀x,d=some x->x∉looks ops o) (hd:∀x,d=some x->o.dst≠some x) (ρ:Env) (u:Value) (h:Hp) (K:Env->Hp->Prop):
 aX P ops o (ρ.put d u) h K=aX P ops o ρ h fun ρ' h'=>K (ρ'.put d u) h':=by
 have hop:∀x∈o.op.operands,(ρ.put d u).ev x=ρ.ev x:=fun x hx=>Au fun t ht=>lE fun y hy e=>hl y hy (by
  subst ht e;exact List.mem_append_left _ (List.mem_filterMap.2 ⟨.tmp y,by simpa using hx,rfl⟩))
 have hc:∀v,(ρ.put d u).put o.dst v=(ρ.put o.dst v).put d u:=fun v=>put_comm hd u v
 unfold aX;cases hg:o.guard with
 |none=>
  dsimp only;rw[kW hop]
  (try simp only[hc])
 |some q=>
  obtain⟨j,want⟩:=q;dsimp only;cases ht:jq ops j with
  |none=>rfl
  |some t=>
   dsimp only
   have hslot:(ρ.put d u) t=ρ t:=lE fun y hy e=>hl y hy (by
    subst e;unfold jq at ht;simp[looks,Oper.looksAt,hg,ht])
   rw[hslot,kW hop]
   (try simp only[hc])
theorem nF {o:Oper} (hs:gG o.op=true) {ρ:Env} {h:Hp} {K K':Env->Hp->Prop} (hk:aX P ops o ρ h K) (hk':aX P ops o ρ h K'):
 ∃u,K (ρ.put o.dst u) h/\K' (ρ.put o.dst u) h/\∀L:Env->Hp->Prop,L (ρ.put o.dst u) h->aX P ops o ρ h L:=by
 have hl:bM o.op=false:=by simpa[gG]using hs
 have red:∀(F:KH),bE P o.op ρ h F=de P o.op ρ h fun v=>F v h:=fun F=>by unfold bE;rw[hl];rfl
 unfold aX at*;split at hk
 ·rename_i hg;simp only[hg]at hk';rw[red]at hk hk';obtain⟨u,h1,h2,h3⟩:=(gA _ _ _).both hk hk';refine⟨u,h1,h2,fun L hL=>?_⟩;rw[red];exact(gA _ _ _).mono (fun v (hv:v=u)=>by rw[hv];exact hL) h3
 ·rename_i j want hg;simp only[hg]at hk';split at hk
  ·exact hk.elim
  ·rename_i t ht;simp only[ht]at hk';split at hk
   ·rename_i q hq;simp only[hq]at hk';split at hk
    ·rename_i e;rw[if_pos e]at hk';rw[red]at hk hk';obtain⟨u,h1,h2,h3⟩:=(gA _ _ _).both hk hk';refine⟨u,h1,h2,fun L hL=>?_⟩;rw[if_pos e,red];exact(gA _ _ _).mono (fun v (hv:v=u)=>by rw[hv];exact hL) h3
    ·rename_i e;rw[if_neg e]at hk';exact⟨undef,hk,hk',fun L hL=>by rw[if_neg e];exact hL⟩
   ·rename_i vs hq;simp only[hq]at hk';exact⟨undef,hk,hk',fun L hL=>hL⟩
   ·exact hk.elim
def rG (P:Program):Op->Bool
 | .convert s d _=>(match P.underlying s,P.underlying d with
  |some (.int _),some (.int _)=>true
  |_,_=>false)
 |_=>false
theorem tK {o:Op} (hs:rG P o=true) {ρ:Env} {h:Hp} {F F':KH} (hk:bE P o ρ h F) (hk':bE P o ρ h F'):∃u,F u h/\F' u h/\∀G:KH,G u h->bE P o ρ h G:=by
 cases o
 case convert s d x=>
  have red:∀G:KH,bE P (.convert s d x) ρ h G=gX P s d (ρ.ev x) h G:=fun G=>rfl
  rw[red]at hk hk';unfold rG at hs;dsimp only at hs;split at hs
  ·rename_i k1 k2 e1 e2;unfold gX at hk hk';split at hk
   ·rename_i q n hv;simp only[hv,e1,e2]at hk hk';refine⟨_,hk,hk',fun G hG=>?_⟩;rw[red];unfold gX
    (try simp only[hv,e1,e2])
    exact hG
   ·simp only[e1,e2]at hk
   ·simp only[e1,e2]at hk
   ·exact hk.elim
  ·cases hs
 all_goals cases hs
theorem Av {o:Oper} (hs:rG P o.op=true) {ρ:Env} {h:Hp} {K K':Env->Hp->Prop} (hk:aX P ops o ρ h K) (hk':aX P ops o ρ h K'):
 ∃u,K (ρ.put o.dst u) h/\K' (ρ.put o.dst u) h/\∀L:Env->Hp->Prop,L (ρ.put o.dst u) h->aX P ops o ρ h L:=by
 unfold aX at*;split at hk
 ·rename_i hg;simp only[hg]at hk';obtain⟨u,h1,h2,h3⟩:=tK hs hk hk';refine⟨u,h1,h2,fun L hL=>?_⟩;exact h3 _ hL
 ·rename_i j want hg;simp only[hg]at hk';split at hk
  ·exact hk.elim
  ·rename_i t ht;simp only[ht]at hk';split at hk
   ·rename_i q hq;simp only[hq]at hk';split at hk
    ·rename_i e;rw[if_pos e]at hk';obtain⟨u,h1,h2,h3⟩:=tK hs hk hk';refine⟨u,h1,h2,fun L hL=>?_⟩;rw[if_pos e];exact h3 _ hL
    ·rename_i e;rw[if_neg e]at hk';exact⟨undef,hk,hk',fun L hL=>by rw[if_neg e];exact hL⟩
   ·rename_i vs hq;simp only[hq]at hk';exact⟨undef,hk,hk',fun L hL=>hL⟩
   ·exact hk.elim
theorem C9 {o:Oper} (hc:pG P o.op=true) {ρ:Env} {h:Hp} (h':Hp) {K:Env->Hp->Prop} (hk:aX P ops o ρ h fun ρ' _=>K ρ' h'):aX P ops o ρ h' K:=by
 have hl:bM o.op=false:=by simpa[gG]using mB hc
 have red:∀(g:Hp) (F:KH),bE P o.op ρ g F=de P o.op ρ g fun v=>F v g:=fun g F=>by unfold bE;rw[hl];rfl
 unfold aX at*;split at hk
 ·rw[red]at hk⊢;exact qt hc ρ h h' _ hk
 ·rename_i j want hg;split at hk
  ·exact hk.elim
  ·rename_i t ht;split at hk
   ·split at hk
    ·rename_i e;rw[if_pos e,red];rw[red]at hk;exact qt hc ρ h h' _ hk
    ·rename_i e;rw[if_neg e];exact hk
   ·exact hk
   ·exact hk.elim
def iQ (P:Program) (ops:Array Oper) (o:Oper) (ρ:Env) (h:Hp) (M:Value->Hp->Prop):Prop:=
 match o.guard with
 |none=>bE P o.op ρ h M
 |some (j,want)=>(match jq ops j with
  |none=>False
  |some t=>(match ρ t with
   | .bool q=>if q=want then bE P o.op ρ h M else M undef h
   | .tuple _=>M undef h
   |_=>False))
theorem oE (o:Oper) (ρ:Env) (h:Hp) (K:Env->Hp->Prop):aX P ops o ρ h K=iQ P ops o ρ h fun v h'=>K (ρ.put o.dst v) h':=rfl
theorem uC {o:Oper} {ρ ρ':Env} (ha:∀t∈looks ops o,ρ' t=ρ t) (h:Hp) (M:Value->Hp->Prop):iQ P ops o ρ' h M=iQ P ops o ρ h M:=by
 have hop:∀x∈o.op.operands,ρ'.ev x=ρ.ev x:=fun x hx=>Au fun t ht=>ha t (by
  subst ht;exact List.mem_append_left _ (List.mem_filterMap.2 ⟨.tmp t,by simpa using hx,rfl⟩))
 unfold iQ;cases hg:o.guard with
 |none=>dsimp only;rw[kW hop]
 |some q=>
  obtain⟨j,want⟩:=q;dsimp only;cases ht:jq ops j with
  |none=>rfl
  |some t=>
   dsimp only
   have hslot:ρ' t=ρ t:=ha t (by
    unfold jq at ht;simp[looks,Oper.looksAt,hg,ht])
   rw[hslot,kW hop]
theorem Da {o:Oper} (hs:gG o.op=true) {ρ:Env} {h:Hp} {M M':Value->Hp->Prop} (hk:iQ P ops o ρ h M) (hk':iQ P ops o ρ h M'):
 ∃u,M u h/\M' u h/\∀L:Value->Hp->Prop,L u h->iQ P ops o ρ h L:=by
 have hl:bM o.op=false:=by simpa[gG]using hs
 have red:∀(F:KH),bE P o.op ρ h F=de P o.op ρ h fun v=>F v h:=fun F=>by unfold bE;rw[hl];rfl
 unfold iQ at*;split at hk
 ·rename_i hg;simp only[hg]at hk';rw[red]at hk hk';obtain⟨u,h1,h2,h3⟩:=(gA _ _ _).both hk hk';refine⟨u,h1,h2,fun L hL=>?_⟩;rw[red];exact(gA _ _ _).mono (fun v (hv:v=u)=>by rw[hv];exact hL) h3
 ·rename_i j want hg;simp only[hg]at hk';split at hk
  ·exact hk.elim
  ·rename_i t ht;simp only[ht]at hk';split at hk
   ·rename_i q hq;simp only[hq]at hk';split at hk
    ·rename_i e;rw[if_pos e]at hk';rw[red]at hk hk';obtain⟨u,h1,h2,h3⟩:=(gA _ _ _).both hk hk';refine⟨u,h1,h2,fun L hL=>?_⟩;rw[if_pos e,red];exact(gA _ _ _).mono (fun v (hv:v=u)=>by rw[hv];exact hL) h3
    ·rename_i e;rw[if_neg e]at hk';exact⟨undef,hk,hk',fun L hL=>by rw[if_neg e];exact hL⟩
   ·rename_i vs hq;simp only[hq]at hk';exact⟨undef,hk,hk',fun L hL=>hL⟩
   ·exact hk.elim
theorem Hf {o:Oper} (hc:pG P o.op=true) {ρ:Env} {h:Hp} (h':Hp) {M:Value->Hp->Prop} (hk:iQ P ops o ρ h fun v _=>M v h'):iQ P ops o ρ h' M:=by
 have hl:bM o.op=false:=by simpa[gG]using mB hc
 have red:∀(g:Hp) (F:KH),bE P o.op ρ g F=de P o.op ρ g fun v=>F v g:=fun g F=>by unfold bE;rw[hl];rfl
 unfold iQ at*;split at hk
 ·rw[red]at hk⊢;exact qt hc ρ h h' _ hk
 ·rename_i j want hg;split at hk
  ·exact hk.elim
  ·rename_i t ht;split at hk
   ·split at hk
    ·rename_i e;rw[if_pos e,red];rw[red]at hk;exact qt hc ρ h h' _ hk
    ·rename_i e;rw[if_neg e];exact hk
   ·exact hk
   ·exact hk.elim
theorem yA {o:Op} (hs:rG P o=true) {ρ:Env} {h h':Hp} {F:KH} (hk:bE P o ρ h fun v _=>F v h'):bE P o ρ h' F:=by
 cases o
 case convert s d x=>
  have red:∀(g:Hp) (G:KH),bE P (.convert s d x) ρ g G=gX P s d (ρ.ev x) g G:=fun _ _=>rfl
  rw[red]at hk⊢;unfold rG at hs;dsimp only at hs;split at hs
  ·rename_i k1 k2 e1 e2;unfold gX at hk⊢;split at hk
   ·rename_i q n hv;simp only[hv,e1,e2]at hk⊢;exact hk
   ·simp only[e1,e2]at hk
   ·simp only[e1,e2]at hk
   ·exact hk.elim
  ·cases hs
 all_goals cases hs
theorem Hg {o:Oper} (hc:rG P o.op=true) {ρ:Env} {h:Hp} (h':Hp) {K:Env->Hp->Prop} (hk:aX P ops o ρ h fun ρ' _=>K ρ' h'):aX P ops o ρ h' K:=by
 unfold aX at*;split at hk
 ·exact yA hc hk
 ·rename_i j want hg;split at hk
  ·exact hk.elim
  ·rename_i t ht;split at hk
   ·split at hk
    ·rename_i e;rw[if_pos e];exact yA hc hk
    ·rename_i e;rw[if_neg e];exact hk
   ·exact hk
   ·exact hk.elim
theorem Jo {o:Oper} (hc:rG P o.op=true) {ρ:Env} {h:Hp} (h':Hp) {M:Value->Hp->Prop} (hk:iQ P ops o ρ h fun v _=>M v h'):iQ P ops o ρ h' M:=by
 unfold iQ at*;split at hk
 ·exact yA hc hk
 ·rename_i j want hg;split at hk
  ·exact hk.elim
  ·rename_i t ht;split at hk
   ·split at hk
    ·rename_i e;rw[if_pos e];exact yA hc hk
    ·rename_i e;rw[if_neg e];exact hk
   ·exact hk
   ·exact hk.elim
def nf (P:Program) (o:Op):Bool:=pG P o||rG P o
theorem Aw {o:Oper} (hc:nf P o.op=true) {ρ:Env} {h:Hp} (h':Hp) {K:Env->Hp->Prop} (hk:aX P ops o ρ h fun ρ' _=>K ρ' h'):aX P ops o ρ h' K:=by
 unfold nf at hc;rw[Bool.or_eq_true]at hc;exact hc.elim (fun q=>C9 q h' hk) (fun q=>Hg q h' hk)
theorem Db {o:Oper} (hc:nf P o.op=true) {ρ:Env} {h:Hp} (h':Hp) {M:Value->Hp->Prop} (hk:iQ P ops o ρ h fun v _=>M v h'):iQ P ops o ρ h' M:=by
 unfold nf at hc;rw[Bool.or_eq_true]at hc;exact hc.elim (fun q=>Hf q h' hk) (fun q=>Jo q h' hk)
theorem Hh {o:Oper} (hs:gG o.op=true∨rG P o.op=true) {ρ:Env} {h:Hp} {K K':Env->Hp->Prop} (hk:aX P ops o ρ h K) (hk':aX P ops o ρ h K'):
 ∃u,K (ρ.put o.dst u) h/\K' (ρ.put o.dst u) h/\∀L:Env->Hp->Prop,L (ρ.put o.dst u) h->aX P ops o ρ h L:=hs.elim (fun q=>nF q hk hk') fun q=>Av q hk hk'
theorem Jp {o:Oper} (hs:rG P o.op=true) {ρ:Env} {h:Hp} {M M':Value->Hp->Prop} (hk:iQ P ops o ρ h M) (hk':iQ P ops o ρ h M'):
 ∃u,M u h/\M' u h/\∀L:Value->Hp->Prop,L u h->iQ P ops o ρ h L:=by
 unfold iQ at*;split at hk
 ·rename_i hg;simp only[hg]at hk';obtain⟨u,h1,h2,h3⟩:=tK hs hk hk';refine⟨u,h1,h2,fun L hL=>?_⟩;exact h3 _ hL
 ·rename_i j want hg;simp only[hg]at hk';split at hk
  ·exact hk.elim
  ·rename_i t ht;simp only[ht]at hk';split at hk
   ·rename_i q hq;simp only[hq]at hk';split at hk
    ·rename_i e;rw[if_pos e]at hk';obtain⟨u,h1,h2,h3⟩:=tK hs hk hk';refine⟨u,h1,h2,fun L hL=>?_⟩;rw[if_pos e];exact h3 _ hL
    ·rename_i e;rw[if_neg e]at hk';exact⟨undef,hk,hk',fun L hL=>by rw[if_neg e];exact hL⟩
   ·rename_i vs hq;simp only[hq]at hk';exact⟨undef,hk,hk',fun L hL=>hL⟩
   ·exact hk.elim
theorem Ax {o:Oper} (hs:nf P o.op=true) {ρ:Env} {h:Hp} {M M':Value->Hp->Prop} (hk:iQ P ops o ρ h M) (hk':iQ P ops o ρ h M'):∃u,M u h/\M' u h/\∀L:Value->Hp->Prop,L u h->iQ P ops o ρ h L:=by
 unfold nf at hs;rw[Bool.or_eq_true]at hs;exact hs.elim (fun q=>Da (mB q) hk hk') fun q=>Jp q hk hk'
theorem Jq {o:Oper} {ρ:Env} {h:Hp} {M:Value->Hp->Prop} (hk:iQ P ops o ρ h M) {w:World} (hi:Is w h):∃v h' w',Is w' h'/\M v h':=by
 have st:bE P o.op ρ h M->∃v h' w',Is w' h'/\M v h':=fun k=>by
  have hr:=jo k hi;generalize (execOp ρ.ev o).run P w=r at hr;cases hr with
  |value v w' h' i s m=>exact⟨v,h',w',i,m⟩
  |skip w' h' i s m=>exact⟨undef,h',w',i,m⟩
  |enter f args w' h' i s m=>
   obtain⟨e,w2,fr,⟨v,g,_,i2,_,m2⟩,_⟩:=m w' i [];exact⟨v,g,w2,i2,m2⟩
 unfold iQ at hk;split at hk
 ·exact st hk
 ·split at hk
  ·exact hk.elim
  ·split at hk
   ·split at hk
    ·exact st hk
    ·exact⟨_,h,w,hi,hk⟩
   ·exact⟨_,h,w,hi,hk⟩
   ·exact hk.elim
def eH (P:Program) (ops:Array Oper):List Nat->Env->Hp->(Env->Hp->Prop)->Prop
 | [],ρ,h,N=>N ρ h
 |i::l,ρ,h,N=>(match ops[i]? with
  |none=>eH P ops l ρ h N
  |some o=>aX P ops o ρ h fun ρ' h'=>eH P ops l ρ' h' N)
theorem Ay (N:Env->Hp->Prop):∀(l:List Oper) (k:Nat),(∀j,l[j]?=ops[k+j]?)->∀ρ h,kp P ops l ρ h N->eH P ops (List.range' k l.length) ρ h N
 | [],_,_,_,_,hk=>hk
 |o::l,k,hl,ρ,h,hk=>by
  have h0:ops[k]?=some o:=by simpa using (hl 0).symm
  simp only[List.length_cons,List.range'_succ,eH,h0];exact eO (fun v h' hn=>Ay N l (k+1) (fun j=>by have:=hl (j+1);simpa[Nat.add_assoc,Nat.add_comm 1 j]using this) _ _ hn) (mC hk)
def Jr:Op->Bool
 | .load .. | .lookup .. =>true
 |_=>false
def Hk:Op->Bool
 | .buildSlice .. | .alloc _| .makeMap _ none=>true
 |_=>false
theorem EU {o:Op} (hs:Hk o=true) {ρ:Env} {h:Hp} {F F':KH} (hk:bE P o ρ h F) (hk':bE P o ρ h F'):∃u h',F u h'/\F' u h'/\∀G:KH,G u h'->bE P o ρ h G:=by
 cases o
 case buildSlice t len parts=>
  have red:∀G:KH,bE P (.buildSlice t len parts) ρ h G=(match dB P t len (parts.toList.map fun x=>(x.1,ρ.ev x.2))with
   |some (e,r)=>G (.slice (some ⟨h.n,0,none⟩) len len) ((h.put h.n (.cells r e (0,0))).to (h.n+1))
   |none=>False):=fun G=>rfl
  rw[red]at hk hk';split at hk
  ·rename_i e r hq;simp only[hq]at hk';exact⟨_,_,hk,hk',fun G hG=>by rw[red];simp only[hq];exact hG⟩
  ·exact hk.elim
 case alloc e=>
  have red:∀G:KH,bE P (.alloc e) ρ h G=(match cL P e with
   |some z=>G (.pointer (some ⟨h.n,0,none⟩)) ((h.put h.n (.cells z.cells e (0,0))).to (h.n+1))
   |none=>False):=fun G=>rfl
  rw[red]at hk hk';split at hk
  ·rename_i z hq;simp only[hq]at hk';exact⟨_,_,hk,hk',fun G hG=>by rw[red];simp only[hq];exact hG⟩
  ·exact hk.elim
 case makeMap t n=>
  cases n with
  |none=>exact⟨.map (some h.n),(h.put h.n (.map #[] 0)).to (h.n+1),hk,hk',fun G hG=>hG⟩
  |some x=>cases hs
 all_goals cases hs
theorem Hl {o:Oper} (hs:Hk o.op=true) {ρ:Env} {h:Hp} {K K':Env->Hp->Prop} (hk:aX P ops o ρ h K) (hk':aX P ops o ρ h K'):
 ∃u h',K (ρ.put o.dst u) h'/\K' (ρ.put o.dst u) h'/\∀L:Env->Hp->Prop,L (ρ.put o.dst u) h'->aX P ops o ρ h L:=by
 unfold aX at*;split at hk
 ·rename_i hg;simp only[hg]at hk';obtain⟨u,h',h1,h2,h3⟩:=EU hs hk hk';refine⟨u,h',h1,h2,fun L hL=>?_⟩;exact h3 _ hL
 ·rename_i j want hg;simp only[hg]at hk';split at hk
  ·exact hk.elim
  ·rename_i t ht;simp only[ht]at hk';split at hk
   ·rename_i q hq;simp only[hq]at hk';split at hk
    ·rename_i e;rw[if_pos e]at hk';obtain⟨u,h',h1,h2,h3⟩:=EU hs hk hk';refine⟨u,h',h1,h2,fun L hL=>?_⟩;rw[if_pos e];exact h3 _ hL
    ·rename_i e;rw[if_neg e]at hk';exact⟨undef,h,hk,hk',fun L hL=>by rw[if_neg e];exact hL⟩
   ·rename_i vs hq;simp only[hq]at hk';exact⟨undef,h,hk,hk',fun L hL=>hL⟩
   ·exact hk.elim
def ng (P:Program) (ops:Array Oper) (j i:Nat):Bool:=match ops[j]?,ops[i]? with
 |some a,some b=>a.apart ops b&&(nf P a.op||nf P b.op||(gG a.op&&gG b.op)||(Jr a.op&&Hk b.op))
 |_,_=>true
def Ext (h h':Hp):Prop:=∀b o,h.f b=some o->h'.f b=some o
theorem Js {t:TypeId} {a:Value} {h h':Hp} {K:Value->Prop} (he:Ext h h') (hk:ki P t a h K):ki P t a h' K:=by
 unfold ki at*;split at hk
 ·rename_i b o;cases hb:h.f b with
  |none=>simp only[hb]at hk
  |some x=>
   simp only[hb]at hk
   (try simp only[he b x hb])
   exact hk
 ·exact hk.elim
theorem Dc {t:TypeId} {m k:Value} {ok:Bool} {h h':Hp} {K:Value->Prop} (he:Ext h h') (hk:fo P t m k ok h K):fo P t m k ok h' K:=by
 have hm:∀l,rE h m=some l->rE h' m=some l:=fun l e=>by
  unfold rE at*;split at e
  ·exact e
  ·rename_i b;cases hb:h.f b with
   |none=>simp only[hb]at e;cases e
   |some x=>
    simp only[hb]at e
    (try simp only[he b x hb])
    exact e
  ·cases e
 have hl:∀v,jT P t m k ok h=some v->jT P t m k ok h'=some v:=fun v e=>by
  simp only[jT,Option.bind_eq_some_iff]at e⊢;obtain⟨x,h1,l,h2,h3⟩:=e;exact⟨x,h1,l,hm l h2,h3⟩
 unfold fo at*;split at hk
 ·rename_i v hv;rw[hl v hv];exact hk
 ·exact hk.elim
theorem Nd {o:Oper} (hl:Jr o.op=true) {ρ:Env} {h h':Hp} {u:Value} (he:Ext h h') (hu:∀L:Env->Hp->Prop,L (ρ.put o.dst u) h->aX P ops o ρ h L) (L:Env->Hp->Prop) (hL:L (ρ.put o.dst u) h'):aX P ops o ρ h' L:=by
 have hk:=hu (fun ρ' _=>ρ'=ρ.put o.dst u) rfl
 have main:(∀(g:Hp) (F:KH),bE P o.op ρ g F=de P o.op ρ g fun v=>F v g)->(∀K:Value->Prop,de P o.op ρ h K->de P o.op ρ h' K)->aX P ops o ρ h' L:=fun red upK=>by
  have up:de P o.op ρ h (fun v=>ρ.put o.dst v=ρ.put o.dst u)->de P o.op ρ h' fun v=>L (ρ.put o.dst v) h':=fun k=>
   (gA _ _ _).mono (fun v e=>by rw[e];exact hL) (upK _ k)
  unfold aX at*;split at hk
  ·rw[red]at hk⊢;exact up hk
  ·split at hk
   ·exact hk.elim
   ·split at hk
    ·split at hk
     ·rename_i e;rw[if_pos e,red];rw[red]at hk;exact up hk
     ·rename_i e;rw[if_neg e,hk];exact hL
    ·rw[hk];exact hL
    ·exact hk.elim
 cases hop:o.op with
 |load t a=>exact main (fun g F=>by rw[hop];rfl) (fun K k=>by rw[hop]at k⊢;exact Js he k)
 |lookup t m k ok=>exact main (fun g F=>by rw[hop];rfl) (fun K k=>by rw[hop]at k⊢;exact Dc he k)
 |_=>rw[hop]at hl;cases hl
theorem Jt {o:Oper} (hm:Hk o.op=true) {ρ:Env} {h:Hp} {K:Env->Hp->Prop} (hw:∀b x,h.f b=some x->b<h.n) (hk:aX P ops o ρ h K):aX P ops o ρ h fun ρ' h'=>K ρ' h'/\Ext h h':=by
 have rfl':Ext h h:=fun _ _ e=>e
 have ext:∀x,Ext h ((h.put h.n x).to (h.n+1)):=fun x b y hb=>by
  have:=hw b y hb;show(if b=h.n then _ else h.f b)=some y;rw[if_neg (by omega)];exact hb
 have main:(bE P o.op ρ h (fun v h'=>K (ρ.put o.dst v) h')->bE P o.op ρ h fun v h'=>K (ρ.put o.dst v) h'/\Ext h h')->aX P ops o ρ h fun ρ' h'=>K ρ' h'/\Ext h h':=fun st=>by
  unfold aX at*;split at hk
  ·exact st hk
  ·split at hk
   ·exact hk.elim
   ·split at hk
    ·split at hk
     ·rename_i e;rw[if_pos e];exact st hk
     ·rename_i e;rw[if_neg e];exact⟨hk,rfl'⟩
    ·exact⟨hk,rfl'⟩
    ·exact hk.elim
 cases hop:o.op with
 |buildSlice t len parts=>
  refine main fun k=>?_
  rw[hop]at k⊢;unfold bE at*;simp only[bM,if_true,nc]at*;split at k
  ·exact⟨k,ext _⟩
  ·exact k.elim
 |alloc e=>
  refine main fun k=>?_
  rw[hop]at k⊢;unfold bE at*;simp only[bM,if_true,nc,pB,G2]at*;split at k
  ·exact⟨k,ext _⟩
  ·exact k.elim
 |makeMap t n=>
  cases n with
  |none=>
   refine main fun k=>?_
   rw[hop]at k⊢;exact⟨k,ext _⟩
  |some x=>rw[hop]at hm;cases hm
 |_=>rw[hop]at hm;cases hm
theorem Dd {N:Env->Hp->Prop} (l:List Nat):∀(r:List Nat) (ρ:Env) (h:Hp) (w:World),eH P ops (r++l) ρ h N->Is w h->
 ∃ρ' h',eH P ops l ρ' h' N/\∀t,(∀j∈r,∀a,ops[j]?=some a->a.dst≠some t)->ρ' t=ρ t
 | [],ρ,h,w,hk,_=>⟨ρ,h,hk,fun _ _=>rfl⟩
 |j::r,ρ,h,w,hk,hi=>by
  simp only[List.cons_append,eH]at hk;split at hk
  ·obtain⟨ρ',h',h1,h2⟩:=Dd l r ρ h w hk hi;exact⟨ρ',h',h1,fun t ht=>h2 t fun i hi=>ht i (by simp[hi])⟩
  ·rename_i a ha;rw[oE]at hk;obtain⟨v,h1,w1,hi1,hk1⟩:=Jq hk hi;obtain⟨ρ',h',h2,h3⟩:=Dd l r _ h1 w1 hk1 hi1;refine⟨ρ',h',h2,fun t ht=>(h3 t fun i hi=>ht i (by simp[hi])).trans (lE fun x hx e=>ht j (by simp) a ha (by rw[hx,e]))⟩
theorem xb {N:Env->Hp->Prop} {i:Nat} {o:Oper} (ho:ops[i]?=some o) (hc:nf P o.op=true) {ρ0:Env} {u:Value} (hu:∀h (L:Value->Hp->Prop),L u h->iQ P ops o ρ0 h L) (r2:List Nat):
 ∀(r:List Nat),(∀j∈r,ng P ops j i=true)->∀(ρ:Env) (h:Hp),(∀t∈looks ops o,ρ t=ρ0 t)->eH P ops (r++i::r2) ρ h N->eH P ops (r++r2) (ρ.put o.dst u) h N
 | [],_,ρ,h,ha,hk=>by
  simp only[List.nil_append,eH,ho]at hk⊢;rw[oE,uC ha]at hk;obtain⟨v,h1,h2,_⟩:=Ax hc hk (hu h (fun v _=>v=u) rfl);rw[h2]at h1;exact h1
 |j::r,hr,ρ,h,ha,hk=>by
  simp only[List.cons_append,eH]at hk⊢;have ih:=xb (N:=N) ho hc hu r2 r fun k hk=>hr k (by simp[hk])
  split at hk
  ·exact ih ρ h ha hk
  ·rename_i a hj;have hcm:=hr j (by simp);simp only[ng,hj,ho,Bool.and_eq_true]at hcm;obtain⟨h1,h2,h3⟩:=Oper.apart_spec hcm.1
   have hk2:aX P ops a ρ h fun ρ' h'=>eH P ops (r++r2) (ρ'.put o.dst u) h' N:=
    eO (fun v h' hn=>ih _ h' (fun t ht=>(lE fun x hx e=>h1 x hx (by rw[e];exact ht)).trans (ha t ht)) hn) hk
   rw[nE (o:=a) (d:=o.dst) (fun x hx=>h3 x hx) (fun x hx e=>h2 x e hx)];exact hk2
theorem uD {N:Env->Hp->Prop} {i:Nat} {o:Oper} (ho:ops[i]?=some o) (r2:List Nat):∀(r:List Nat),(∀j∈r,ng P ops j i=true)->nf P o.op=false->∀(ρ:Env) (h:Hp),(∀b x,h.f b=some x->b<h.n)->
 eH P ops (r++i::r2) ρ h N->aX P ops o ρ h fun ρ' h'=>eH P ops (r++r2) ρ' h' N
 | [],_,_,ρ,h,_,hk=>by simpa[eH,ho]using hk
 |j::r,hr,hnc,ρ,h,hw,hk=>by
  have ih:=uD (N:=N) ho r2 r (fun k hk=>hr k (by simp[hk])) hnc;simp only[List.cons_append,eH]at hk⊢;cases hj:ops[j]? with
  |none=>
   simp only[hj]at hk⊢;exact ih ρ h hw hk
  |some a=>
   simp only[hj]at hk⊢;have hcm:=hr j (by simp);simp only[ng,hj,ho,Bool.and_eq_true,hnc,Bool.or_false,Bool.or_eq_true]at hcm;obtain⟨h1,h2,h3⟩:=Oper.apart_spec hcm.1
   have hst:gG a.op=true∨rG P a.op=true:=by
    rcases hcm.2 with(hca|hso)|hld
    ·unfold nf at hca;rw[Bool.or_eq_true]at hca;exact hca.imp mB id
    ·exact .inl hso.1
    ·exact .inl (by cases hop:a.op<;>first|rfl|(rw[hop]at hld;cases hld.1))
   obtain⟨u,hk1,_,hu2⟩:=Hh hst hk hk;have hu1:=ih _ h hw hk1;have hloc:=nE (P:=P) (ops:=ops) (o:=o) (d:=a.dst) (fun x hx=>h1 x hx) (fun x hx=>h2 x hx) ρ u h fun ρ2 g2=>eH P ops (r++r2) ρ2 g2 N
   rw[hloc]at hu1
   have back:∀v (h':Hp) (L:Env->Hp->Prop),aX P ops a ρ h' (fun ρ' h'=>L (ρ'.put o.dst v) h')->aX P ops a (ρ.put o.dst v) h' L:=fun v h' L k=>by
    rw[nE (o:=a) (d:=o.dst) (fun x hx=>h3 x hx) (fun x hx e=>h2 x e hx)];exact k
   rcases hcm.2 with(hca|⟨_,hso⟩)|⟨hld,hmk⟩
   ·refine eO (fun v h' hn=>back v h' _ ?_) hu1;refine Aw hca h' (h:=h) (hu2 _ ?_);rw[put_comm (fun x hx=>h2 x hx)];exact hn
   ·obtain⟨v,hv1,_,hv2⟩:=nF hso hu1 hu1;refine hv2 _ (back v h _ (hu2 _ ?_));rw[put_comm (fun x hx=>h2 x hx)];exact hv1
   ·refine eO (fun v h' hn=>back v h' _ (Nd hld hn.2 hu2 _ ?_)) (Jt hmk hw hu1);rw[put_comm (fun x hx=>h2 x hx)];exact hn.1
theorem PW {N:Env->Hp->Prop} {i:Nat} {o:Oper} (ho:ops[i]?=some o) (r r2:List Nat) (hr:∀j∈r,ng P ops j i=true) {ρ:Env} {h:Hp} {w:World} (hi:Is w h)
 (hk:eH P ops (r++i::r2) ρ h N):aX P ops o ρ h fun ρ' h'=>eH P ops (r++r2) ρ' h' N:=by
 cases hc:nf P o.op with
 |false=>exact uD ho r2 r hr hc ρ h (fun b x e=>by rw[<-hi.1];exact(Array.getElem?_eq_some_iff.1 (hi.2 b x e)).1) hk
 |true=>
  obtain⟨ρ',h',h1,h2⟩:=Dd (i::r2) r ρ h w hk hi;simp only[eH,ho]at h1
  have ha:∀t∈looks ops o,ρ' t=ρ t:=fun t ht=>h2 t fun j hj a haj e=>by
   have hcm:=hr j hj;simp only[ng,haj,ho,Bool.and_eq_true]at hcm;exact(Oper.apart_spec hcm.1).1 t e ht
  rw[oE,uC ha]at h1;obtain⟨u,_,_,hu⟩:=Ax hc h1 h1;have hu':∀g (L:Value->Hp->Prop),L u g->iQ P ops o ρ g L:=fun g L hL=>Db hc g (hu (fun v _=>L v g) hL)
  rw[oE];exact hu' h _ (xb ho hc hu' r2 r hr ρ h (fun _ _=>rfl) hk)
def nq (ops:Array Oper):Nat->Nat->Nat->Bool
 |0,_,_=>false
 |f+1,j,i=>(match ops[i]? with
  |some o=>o.after.any fun e=>Region.binds .any e&&(e.on==j||nq ops f j e.on)
  |none=>false)
def Az (P:Program) (ops:Array Oper):Bool:=
 (List.range ops.size).all fun i=>(match ops[i]? with
  |some o=>o.after.all fun e=>!Region.binds .any e||decide (e.on<i)
  |none=>true)&&(List.range i).all fun j=>ng P ops j i||nq ops 4 j i
def Down (ops:Array Oper) (listed:Array Bool):Prop:=∀i o,ops[i]?=some o->listed.getD i false=true->∀e∈o.after,Region.binds .any e=true->listed.getD e.on false=true
theorem gY {listed:Array Bool} (hd:Down ops listed) {j:Nat}:∀(f i:Nat),(∀o,ops[i]?=some o->∀e∈o.after,Region.binds .any e=true->listed.getD e.on false=true)->nq ops f j i=true->listed.getD j false=true
 |0,_,_,hb=>by simp[nq]at hb
 |f+1,i,hi,hb=>by
  unfold nq at hb;split at hb
  ·rename_i o ho;obtain⟨e,he,h1⟩:=Array.any_eq_true'.1 hb;simp only[Bool.and_eq_true,Bool.or_eq_true,beq_iff_eq]at h1;have hl:=hi o ho e he h1.1;rcases h1.2 with h2|h2
   ·exact h2▸hl
   ·exact gY hd f e.on (fun o' ho' e' he' hb'=>hd e.on o' ho' hl e' he' hb') h2
  ·cases hb
theorem uE {n:Nat} {ds:List Nat} {ρ0 ρ:Env} {w0 w:World} {h:Hp} {a:Act} {i:Nat} {o:Oper} {K:Act->World->Prop} {N:Env->Hp->Prop} {Q:Exit->Act->World->Prop} (ho:ops[i]?=some o)
 (hd:∀t,o.dst=some t->t<n/\ds.contains t=true) (hk:aX P ops o ρ h N) (hr:Rel n a ρ) (hp:fU ds ρ0 ρ) (hi:Is w h) (hs:bG w0 w)
 (hn:∀a w ρ h,Rel n a ρ->fU ds ρ0 ρ->Is w h->bG w0 w->N ρ h->K a w):wpOp P ops Q i K a w:=by
 have hd1:∀t,o.dst=some t->t<n:=fun t e=>(hd t e).1
 have hdd:∀t,o.dst=some t->ds.contains t=true:=fun t e=>(hd t e).2
 unfold wpOp
 (try simp only[ho])
 unfold aX at hk;split at hk
 ·rename_i hg;rw[if_pos (by simp[Region.wanted,hg])];exact .inl (Ran.wp (w0:=w0) (hr.eval▸jo hk hi) hs fun v h' w' hi' hs' hk'=>hn _ _ _ _ (hr.put hd1 v) (hp.put hdd v) hi' hs' hk')
 ·rename_i j want hg;split at hk
  ·exact hk.elim
  ·rename_i t ht;have hy:=pF hr ops ht;split at hk
   ·rename_i q hq;rw[hq]at hy;split at hk
    ·rename_i e;subst e;rw[if_pos (by simp[Region.wanted,hg,hy])];exact .inl (Ran.wp (w0:=w0) (hr.eval▸jo hk hi) hs fun v h' w' hi' hs' hk'=>hn _ _ _ _ (hr.put hd1 v) (hp.put hdd v) hi' hs' hk')
    ·rename_i e;have:q=!want:=by cases q<;>cases want<;>simp_all
     subst this;rw[if_neg (by simp[Region.wanted,hg,hy])];exact hn _ _ _ _ (hr.put hd1 undef) (hp.put hdd undef) hi hs hk
   ·rename_i vs hq;rw[hq]at hy;rw[if_neg (by simp[Region.wanted,hg,hy])];exact hn _ _ _ _ (hr.put hd1 undef) (hp.put hdd undef) hi hs hk
   ·exact hk.elim
theorem mem_ready {listed:Array Bool} {i:Nat}:i∈Region.ready .any ops listed<->i<ops.size/\listed.getD i true=false/\∃o,ops[i]?=some o/\∀e∈o.after,Region.binds .any e=true->listed.getD e.on false=true:=by
 unfold Region.ready;rw[List.mem_filter,List.mem_range];cases h:ops[i]? with
 |none=>simp
 |some o=>
  simp only[Option.map_some,Option.getD_some,Bool.and_eq_true,Bool.not_eq_true',Option.some.injEq,exists_eq_left',Array.all_eq_true',Bool.or_eq_true,and_congr_right_iff];intro _ _
  exact⟨fun k e he hb=>(k e he).resolve_left (by simp[hb]),fun k e he=>by
   cases hb:Region.binds .any e with
   |false=>exact .inl rfl
   |true=>exact .inr (k e he hb)⟩
theorem lF {listed:Array Bool} {i j:Nat} {d:Bool} (hi:i<listed.size):(listed.setIfInBounds i true).getD j d=if j=i then true else listed.getD j d:=by
 simp only[Array.getD_eq_getD_getElem?,Array.getElem?_setIfInBounds];by_cases h:i=j
 ·subst h;simp[hi]
 ·simp[h,Ne.symm h]
theorem Ju {n:Nat} {ds:List Nat} {ρ0:Env} {w0:World} {N:Env->Hp->Prop} {Q:Exit->Act->World->Prop} (hsw:Az P ops=true) (hd:∀o∈ops.toList,∀t,o.dst=some t->t<n/\ds.contains t=true)
 (hQ:∀a w ρ h,Rel n a ρ->fU ds ρ0 ρ->Is w h->bG w0 w->N ρ h->Q .normal a w):
 ∀(fuel:Nat) (l:List Nat) (listed:Array Bool) (ρ:Env) (h:Hp) (a:Act) (w:World),l.length=fuel->listed.size=ops.size->l.Pairwise (·<·)->(∀i,i∈l<->i<ops.size/\listed.getD i false=false)->Down ops listed->
  eH P ops l ρ h N->Rel n a ρ->fU ds ρ0 ρ->Is w h->bG w0 w->wpAny P .any ops Q fuel listed a w:=by
 have hsw':∀i o,ops[i]?=some o->(∀e∈o.after,Region.binds .any e=true->e.on<i)/\∀j,j<i->ng P ops j i=true∨nq ops 4 j i=true:=fun i o ho=>by
  have hlt:i<ops.size:=(Array.getElem?_eq_some_iff.1 ho).1;have:=List.all_eq_true.1 hsw i (by simpa using hlt);rw[Bool.and_eq_true]at this;obtain⟨h1,h2⟩:=this;simp only[ho]at h1;refine⟨fun e he hb=>?_,fun j hj=>?_⟩
  ·have:=Array.all_eq_true'.1 h1 e he;simpa[hb]using this
  ·simpa using List.all_eq_true.1 h2 j (by simpa using hj)
 have dflt:∀{listed:Array Bool},listed.size=ops.size->∀i,i<ops.size->listed.getD i true=listed.getD i false:=fun hsz i hi=>by
  simp[Array.getD,hsz,hi]
 have empty:∀(l:List Nat) (listed:Array Bool),listed.size=ops.size->l.Pairwise (·<·)->(∀i,i∈l<->i<ops.size/\listed.getD i false=false)->Region.ready .any ops listed=[]->l=[]:=fun l listed hsz hpw hm hr=>by
  cases l with
  |nil=>rfl
  |cons i l=>
   exfalso;have hi:=(hm i).1 (by simp)
   have:i∈Region.ready .any ops listed:=mem_ready.2 ⟨hi.1,(dflt hsz i hi.1).trans hi.2,ops[i]'hi.1,Array.getElem?_eq_getElem hi.1,fun e he hb=>by
    have hlt:=(hsw' i _ (Array.getElem?_eq_getElem hi.1)).1 e he hb;cases hl:listed.getD e.on false with
    |true=>rfl
    |false=>
     have hmem:=(hm e.on).2 ⟨by have:=hi.1;omega,hl⟩;rcases List.mem_cons.1 hmem with h1|h1
     ·omega
     ·have:=(List.pairwise_cons.1 hpw).1 _ h1;omega⟩
   rw[hr]at this;cases this
 intro fuel
 induction fuel with
 |zero=>
  intro l listed ρ h a w hl hsz hpw hm hdn hk hr hp hi hs;have hl:l=[]:=by simpa using hl
  subst hl;refine⟨?_,hQ a w ρ h hr hp hi hs hk⟩;cases hre:Region.ready .any ops listed with
  |nil=>rfl
  |cons i r=>
   exfalso;have:=mem_ready.1 (hre▸List.mem_cons_self:i∈Region.ready .any ops listed);exact absurd ((hm i).2 ⟨this.1,(dflt hsz i this.1)▸this.2.1⟩) (by simp)
 |succ fuel ih=>
  intro l listed ρ h a w hl hsz hpw hm hdn hk hr hp hi hs;refine⟨fun h0=>?_,fun i hir=>?_⟩
  ·have:=empty l listed hsz hpw hm h0;subst this;cases hl
  ·obtain⟨hlt,hun,o,ho,hedge⟩:=mem_ready.1 hir;have hil:i∈l:=(hm i).2 ⟨hlt,(dflt hsz i hlt)▸hun⟩;obtain⟨r,r2,rfl⟩:=List.append_of_mem hil;have hpw':=List.pairwise_append.1 hpw;have hrlt:∀j∈r,j<i:=fun j hj=>hpw'.2.2 j hj i (by simp)
   have hr2lt:∀j∈r2,i<j:=fun j hj=>(List.pairwise_cons.1 hpw'.2.1).1 j hj
   have hcm:∀j∈r,ng P ops j i=true:=fun j hj=>((hsw' i o ho).2 j (hrlt j hj)).resolve_right fun hb=>by
    have h1:=gY hdn 4 i (fun o' ho' e he hb'=>by
     rw[ho]at ho';cases ho';exact hedge e he hb') hb
    have h2:=((hm j).1 (by simp[hj])).2;rw[h1]at h2;cases h2
   have hg:=PW ho r r2 hcm hi hk;refine uE ho (hd o (by simpa using Array.mem_of_getElem? ho)) hg hr hp hi hs fun a' w' ρ' h' hr' hp' hi' hs' hk'=>?_
   refine ih (r++r2) _ ρ' h' a' w' (by simp at hl⊢;omega) (by simpa using hsz) ?_ (fun j=>?_) ?_ hk' hr' hp' hi' hs'
   ·exact hpw.sublist (List.Sublist.append (List.Sublist.refl r) (List.sublist_cons_self i r2))
   ·rw[lF (by omega)];have hm':=hm j;by_cases hj:j=i
    ·subst hj;simp only[if_pos,Bool.true_eq_false,and_false,iff_false];intro hmem;rcases List.mem_append.1 hmem with h1|h1
     ·have:=hrlt j h1;omega
     ·have:=hr2lt j h1;omega
    ·rw[if_neg hj,<-hm'];simp[hj]
   ·intro k o' ho' hk' e he hb;rw[lF (by omega)]at hk'⊢;by_cases hki:k=i
    ·subst hki;rw[ho]at ho';cases ho';split
     ·rfl
     ·exact hedge e he hb
    ·rw[if_neg hki]at hk';split
     ·rfl
     ·exact hdn k o' ho' hk' e he hb
def mD (ops:Array Oper):Bool:=(List.range ops.size).all fun i=>match ops[i]? with
 |some o=>o.after.all fun e=>!Region.binds .any e||decide (e.on<i)
 |none=>true
def De (P:Program) (ops:Array Oper) (ρ:Env) (h:Hp) (N:Env->Hp->Prop):Prop:=mD ops=true/\∃I:Array Bool->Env->Hp->Prop,I (Array.replicate ops.size false) ρ h/\
 (∀listed i o ρ h,listed.size=ops.size->Down ops listed->ops[i]?=some o->listed.getD i false=false->(∀e∈o.after,Region.binds .any e=true->listed.getD e.on false=true)->I listed ρ h->(∃w,Is w h)->
  aX P ops o ρ h (I (listed.setIfInBounds i true)))/\
 (∀listed ρ h,listed.size=ops.size->(∀i,i<ops.size->listed.getD i false=true)->I listed ρ h->N ρ h)
theorem Nf {n:Nat} {ds:List Nat} {ρ0:Env} {w0:World} {N:Env->Hp->Prop} {Q:Exit->Act->World->Prop} {I:Array Bool->Env->Hp->Prop} (hed:mD ops=true) (hd:∀o∈ops.toList,∀t,o.dst=some t->t<n/\ds.contains t=true)
 (hstep:∀listed i o ρ h,listed.size=ops.size->Down ops listed->ops[i]?=some o->listed.getD i false=false->(∀e∈o.after,Region.binds .any e=true->listed.getD e.on false=true)->I listed ρ h->(∃w,Is w h)->
  aX P ops o ρ h (I (listed.setIfInBounds i true)))
 (hfin:∀listed ρ h,listed.size=ops.size->(∀i,i<ops.size->listed.getD i false=true)->I listed ρ h->N ρ h)
 (hQ:∀a w ρ h,Rel n a ρ->fU ds ρ0 ρ->Is w h->bG w0 w->N ρ h->Q .normal a w):
 ∀(fuel:Nat) (l:List Nat) (listed:Array Bool) (ρ:Env) (h:Hp) (a:Act) (w:World),l.length=fuel->listed.size=ops.size->l.Pairwise (·<·)->(∀i,i∈l<->i<ops.size/\listed.getD i false=false)->Down ops listed->
  I listed ρ h->Rel n a ρ->fU ds ρ0 ρ->Is w h->bG w0 w->wpAny P .any ops Q fuel listed a w:=by
 have hed':∀i o,ops[i]?=some o->∀e∈o.after,Region.binds .any e=true->e.on<i:=fun i o ho e he hb=>by
  have hlt:i<ops.size:=(Array.getElem?_eq_some_iff.1 ho).1;have h1:=List.all_eq_true.1 hed i (by simpa using hlt);simp only[ho]at h1;have:=Array.all_eq_true'.1 h1 e he;simpa[hb]using this
 have dflt:∀{listed:Array Bool},listed.size=ops.size->∀i,i<ops.size->listed.getD i true=listed.getD i false:=fun hsz i hi=>by
  simp[Array.getD,hsz,hi]
 have empty:∀(l:List Nat) (listed:Array Bool),listed.size=ops.size->l.Pairwise (·<·)->(∀i,i∈l<->i<ops.size/\listed.getD i false=false)->Region.ready .any ops listed=[]->l=[]:=fun l listed hsz hpw hm hr=>by
  cases l with
  |nil=>rfl
  |cons i l=>
   exfalso;have hi:=(hm i).1 (by simp)
   have:i∈Region.ready .any ops listed:=mem_ready.2 ⟨hi.1,(dflt hsz i hi.1).trans hi.2,ops[i]'hi.1,Array.getElem?_eq_getElem hi.1,fun e he hb=>by
    have hlt:=hed' i _ (Array.getElem?_eq_getElem hi.1) e he hb;cases hl:listed.getD e.on false with
    |true=>rfl
    |false=>
     have hmem:=(hm e.on).2 ⟨by have:=hi.1;omega,hl⟩;rcases List.mem_cons.1 hmem with h1|h1
     ·omega
     ·have:=(List.pairwise_cons.1 hpw).1 _ h1;omega⟩
   rw[hr]at this;cases this
 intro fuel
 induction fuel with
 |zero=>
  intro l listed ρ h a w hl hsz hpw hm hdn hk hr hp hi hs;have hl:l=[]:=by simpa using hl
  subst hl;refine⟨?_,hQ a w ρ h hr hp hi hs (hfin listed ρ h hsz (fun i hlt=>?_) hk)⟩
  ·cases hre:Region.ready .any ops listed with
   |nil=>rfl
   |cons i r=>
    exfalso;have:=mem_ready.1 (hre▸List.mem_cons_self:i∈Region.ready .any ops listed);exact absurd ((hm i).2 ⟨this.1,(dflt hsz i this.1)▸this.2.1⟩) (by simp)
  ·cases hb:listed.getD i false with
   |true=>rfl
   |false=>exact absurd ((hm i).2 ⟨hlt,hb⟩) (by simp)
 |succ fuel ih=>
  intro l listed ρ h a w hl hsz hpw hm hdn hk hr hp hi hs;refine⟨fun h0=>?_,fun i hir=>?_⟩
  ·have:=empty l listed hsz hpw hm h0;subst this;cases hl
  ·obtain⟨hlt,hun,o,ho,hedge⟩:=mem_ready.1 hir;have hunf:listed.getD i false=false:=(dflt hsz i hlt)▸hun;have hil:i∈l:=(hm i).2 ⟨hlt,hunf⟩;obtain⟨r,r2,rfl⟩:=List.append_of_mem hil;have hpw':=List.pairwise_append.1 hpw;have hrlt:∀j∈r,j<i:=fun j hj=>hpw'.2.2 j hj i (by simp)
   have hr2lt:∀j∈r2,i<j:=fun j hj=>(List.pairwise_cons.1 hpw'.2.1).1 j hj
   have hg:=hstep listed i o ρ h hsz hdn ho hunf hedge hk ⟨w,hi⟩;refine uE ho (hd o (by simpa using Array.mem_of_getElem? ho)) hg hr hp hi hs fun a' w' ρ' h' hr' hp' hi' hs' hk'=>?_
   refine ih (r++r2) _ ρ' h' a' w' (by simp at hl⊢;omega) (by simpa using hsz) ?_ (fun j=>?_) ?_ hk' hr' hp' hi' hs'
   ·exact hpw.sublist (List.Sublist.append (List.Sublist.refl r) (List.sublist_cons_self i r2))
   ·rw[lF (by omega)];have hm':=hm j;by_cases hj:j=i
    ·subst hj;simp only[if_pos,Bool.true_eq_false,and_false,iff_false];intro hmem;rcases List.mem_append.1 hmem with h1|h1
     ·have:=hrlt j h1;omega
     ·have:=hr2lt j h1;omega
    ·rw[if_neg hj,<-hm'];simp[hj]
   ·intro k o' ho' hk' e he hb;rw[lF (by omega)]at hk'⊢;by_cases hki:k=i
    ·subst hki;rw[ho]at ho';cases ho';split
     ·rfl
     ·exact hedge e he hb
    ·rw[if_neg hki]at hk';split
     ·rfl
     ·exact hdn k o' ho' hk' e he hb
theorem wO {n id:Nat} {ds:List Nat} {ρ0 ρ:Env} {w0 w:World} {h:Hp} {a:Act} {N:Env->Hp->Prop} {Q:Exit->Act->World->Prop} (hm:P.follows .mixedOrders=true) (hd:∀o∈ops.toList,∀t,o.dst=some t->t<n/\ds.contains t=true)
 (hQ:∀a w ρ h,Rel n a ρ->fU ds ρ0 ρ->Is w h->bG w0 w->N ρ h->Q .normal a w) (hk:De P ops ρ h N) (hr:Rel n a ρ) (hp:fU ds ρ0 ρ) (hi:Is w h) (hs:bG w0 w):(Code.region id ops true).wp P Q a w:=by
 obtain⟨hed,I,h0,hstep,hfin⟩:=hk;refine wp_region_any hm (Nf hed hd hstep hfin hQ ops.size (List.range' 0 ops.size) _ ρ h a _ (by simp) (by simp) List.pairwise_lt_range' (fun i=>?_) (fun i o ho hl=>?_) h0 hr hp hi hs)
 ·simp only[List.mem_range'_1,Nat.zero_le,true_and,Nat.zero_add];refine⟨fun hlt=>⟨hlt,?_⟩,fun k=>k.1⟩;simp[Array.getD,hlt]
 ·simp[Array.getD]at hl
theorem uF {n id:Nat} {ds:List Nat} {ρ0 ρ:Env} {w0 w:World} {h:Hp} {a:Act} {N:Env->Hp->Prop} {Q:Exit->Act->World->Prop} (hm:P.follows .mixedOrders=true) (hsw:Az P ops=true) (hd:∀o∈ops.toList,∀t,o.dst=some t->t<n/\ds.contains t=true)
 (hQ:∀a w ρ h,Rel n a ρ->fU ds ρ0 ρ->Is w h->bG w0 w->N ρ h->Q .normal a w) (hk:kp P ops ops.toList ρ h N) (hr:Rel n a ρ) (hp:fU ds ρ0 ρ) (hi:Is w h) (hs:bG w0 w):(Code.region id ops true).wp P Q a w:=by
 refine wp_region_any hm (Ju hsw hd hQ ops.size (List.range' 0 ops.size) _ ρ h a _ (by simp) (by simp) List.pairwise_lt_range' (fun i=>?_) (fun i o ho hl=>?_) ?_ hr hp hi hs)
 ·simp only[List.mem_range'_1,Nat.zero_le,true_and,Nat.zero_add];refine⟨fun hlt=>⟨hlt,?_⟩,fun k=>k.1⟩;simp[Array.getD,hlt]
 ·simp[Array.getD]at hl
 ·have:=Ay (P:=P) (ops:=ops) N ops.toList 0 (fun j=>by simp) ρ h hk;simpa using this
end
section
variable {P:Program} {ops:Array Oper}
abbrev FW (r:Option Nat):Fence:={Fence.wide with round:=r}
def rH (P:Program) (y:Nat) (args:Array Value) (h:Hp) (K:KH):Prop:=∀w,Is w h->YieldAt Fence.wide 0 P y args w fun e w'=>∃v h',e= .returned v/\Is w' h'/\bG w w'/\K v h'
def valOf (o:Oper):Option (Operand×Array Operand):=match o.guard,o.op with
 |none,.call c=>(match c.callee with
  | .value f=>some (f,c.args)
  |_=>none)
 |_,_=>none
def AA (P:Program) (ops:Array Oper):List Oper->Env->Hp->(Env->Hp->Prop)->Prop
 | [],ρ,h,N=>N ρ h
 |o::l,ρ,h,N=>(∃f xs y,valOf o=some (f,xs)/\ρ.ev f= .func (.yield y) #[] #[]/\rH P y (xs.map ρ.ev) h fun v h'=>AA P ops l (ρ.put o.dst v) h' N)∨aX P ops o ρ h fun ρ' h'=>AA P ops l ρ' h' N
def nG (d:List Deferred) (n:Nat) (a:Act) (ρ:Env):Prop:=a.defers=d/\a.tmps.size=n/\∀t,a.tmps.getD t undef=ρ t
theorem nG.eval {d:List Deferred} {n:Nat} {a:Act} {ρ:Env} (h:nG d n a ρ):a.eval=ρ.ev:=by
 funext x;cases x with
 |tmp t=>exact h.2.2 t
 |_=>rfl
theorem nG.rel {d:List Deferred} {n:Nat} {a:Act} {ρ:Env} (h:nG d n a ρ):Rel n {a with defers:=[]} ρ:=⟨rfl,h.2.1,h.2.2⟩
theorem nG.put {D:List Deferred} {n:Nat} {a:Act} {ρ:Env} (h:nG D n a ρ) {d:Option Nat} (hd:∀t,d=some t->t<n) (v:Value):nG D n (a.put d v) (ρ.put d v):=by
 have:=h.rel.put hd v;cases d with
 |none=>exact⟨h.1,this.2.1,this.2.2⟩
 |some d=>exact⟨h.1,this.2.1,this.2.2⟩
theorem pj {op:Op} {ρ:Env} {h:Hp} {K:KH} (hk:bE P op ρ h K):∀c,op≠ .defer c:=fun c e=>by
 subst e;exact hk.elim
theorem Ran.wpIn {r:Option Nat} {o:Oper} {a:Act} {w w0:World} {K:KH} {N:Act->World->Prop} {Q:Exit->Act->World->Prop} (hno:∀c,o.op≠ .defer c) (hr:Ran P w K ((execOp a.eval o).run P w)) (hs:bG w0 w)
 (hn:∀v h' w',Is w' h'->bG w0 w'->K v h'->N (a.put o.dst v) w'):o.wpIn (FW r) 0 P a w N Q:=by
 refine⟨fun _ _=>trivial,?_⟩;rw[show Oper.semAt (FW r).round a.eval o=execOp a.eval o from Oper.semAt_eq _ _ _ hno];generalize (execOp a.eval o).run P w=x at hr;cases hr with
 |value v w' h' hi hs' hk=>exact hn v h' w' hi (hs.trans hs') hk
 |skip w' h' hi hs' hk=>exact hn undef h' w' hi (hs.trans hs') hk
 |enter f args w' h' hi hs' hk=>
  refine⟨fun q=>Bool.noConfusion q,callsIn_wide.2 ((hk w' hi).mono fun e w'' ⟨v,g,he,hi'',hs'',hk'⟩=>?_)⟩;subst he;exact hn v g w'' hi'' ((hs.trans hs').trans hs'') hk'
theorem rH.wpIn {r:Option Nat} {o:Oper} {a:Act} {w w0:World} {K:KH} {N:Act->World->Prop} {Q:Exit->Act->World->Prop} {f:Operand} {xs:Array Operand} {y:Nat} {h:Hp} (hv:valOf o=some (f,xs)) (hf:a.eval f= .func (.yield y) #[] #[]) (hy:rH P y (xs.map a.eval) h K) (hi:Is w h) (hs:bG w0 w)
 (hn:∀v h' w',Is w' h'->bG w0 w'->K v h'->N (a.put o.dst v) w'):o.guard=none/\o.wpIn (FW r) 0 P a w N Q:=by
 obtain⟨dst,op,ty,pos,after,guard⟩:=o;cases guard with
 |some g=>simp[valOf]at hv
 |none=>
  refine⟨rfl,fun _ _=>trivial,?_⟩;cases op with
  |call c=>
   obtain⟨callee,args,ats⟩:=c;cases callee with
   |value f'=>
    simp only[valOf,Option.some.injEq,Prod.mk.injEq]at hv;obtain⟨rfl,rfl⟩:=hv;obtain⟨fn,tmps,assign,body,h1,h2⟩:=hy w hi
    have:(Oper.semAt (FW r).round a.eval ⟨dst,.call {callee:= .value f',args:=args,argTypes:=ats},ty,pos,after,none⟩).run P w= .ok (.round y fn tmps assign body) w:=by
     rw[Oper.semAt_eq _ _ _ (by simp)];simp only[execOp,resolve,hf,Deferred.ofValue,invoke,Sem.run_bind,Sem.run_pure,Result.andThen_ok];simpa using h1
    rw[this];refine⟨fun q=>Bool.noConfusion q,h2.mono fun e w' ⟨v,h',he,hi',hs',hk⟩=>?_⟩;subst he;exact hn v h' w' hi' (hs.trans hs') hk
   |_=>simp[valOf]at hv
  |_=>simp[valOf]at hv
theorem nH {r:Option Nat} {d:List Deferred} {n:Nat} {ds:List Nat} {ρ0:Env} {w0:World} {N:Env->Hp->Prop} {Q:Exit->Act->World->Prop} (hQ:∀a w ρ h,nG d n a ρ->fU ds ρ0 ρ->Is w h->bG w0 w->N ρ h->Q .normal a w):
 ∀(l:List Oper),(∀o∈l,∀t,o.dst=some t->t<n/\ds.contains t=true)->∀(ρ:Env) (h:Hp) (a:Act) (w:World),AA P ops l ρ h N->nG d n a ρ->fU ds ρ0 ρ->Is w h->bG w0 w->wpListIn (FW r) 0 P ops Q l a w
 | [],_,ρ,h,a,w,hk,hr,hp,hi,hs=>hQ a w ρ h hr hp hi hs hk
 |o::l,hd,ρ,h,a,w,hk,hr,hp,hi,hs=>by
  have hd0:=hd o (by simp);have hd1:∀t,o.dst=some t->t<n:=fun t e=>(hd0 t e).1
  have hdd:∀t,o.dst=some t->ds.contains t=true:=fun t e=>(hd0 t e).2
  have ih:=nH (r:=r) (w0:=w0) hQ l (fun o' ho=>hd o' (by simp[ho]));rcases hk with⟨f,xs,y,hv,hf,hy⟩|hk
  ·refine wpListIn_plain (rH.wpIn (r:=r) (w0:=w0) (a:=a) (N:=fun _ _=>True) (Q:=Q) hv (hr.eval▸hf) (hr.eval▸hy) hi hs (fun _ _ _ _ _ _=>trivial)).1 fun K hK=>?_
   exact(rH.wpIn (w0:=w0) hv (hr.eval▸hf) (hr.eval▸hy) hi hs fun v h' w' hi' hs' hk'=>hK _ _ (ih _ _ _ _ hk' (hr.put hd1 v) (hp.put hdd v) hi' hs')).2
  ·unfold aX at hk;split at hk
   ·rename_i hg;exact wpListIn_plain hg fun K hK=>Ran.wpIn (w0:=w0) (pj hk) (hr.eval▸jo hk hi) hs fun v h' w' hi' hs' hk'=>hK _ _ (ih _ _ _ _ hk' (hr.put hd1 v) (hp.put hdd v) hi' hs')
   ·rename_i j want hg;split at hk
    ·exact hk.elim
    ·rename_i t ht;have hy:=pF hr.rel ops ht;dsimp only at hy;split at hk
     ·rename_i q hq;rw[hq]at hy;split at hk
      ·rename_i e;subst e;have hw:Region.wanted o (yielded ops a.tmps)=true:=by simp[Region.wanted,hg,hy]
       refine wpListIn_step fun K hK=>?_
       rw[if_pos hw];exact Ran.wpIn (w0:=w0) (pj hk) (hr.eval▸jo hk hi) hs fun v h' w' hi' hs' hk'=>hK _ _ (ih _ _ _ _ hk' (hr.put hd1 v) (hp.put hdd v) hi' hs')
      ·rename_i e;have e2:q=!want:=by cases q<;>cases want<;>simp_all
       subst e2;have hw:Region.wanted o (yielded ops a.tmps)=false:=by simp[Region.wanted,hg,hy]
       refine wpListIn_step fun K hK=>?_
       rw[if_neg (by simp[hw])];exact⟨fun _ _=>trivial,hK _ _ (ih _ _ _ _ hk (hr.put hd1 undef) (hp.put hdd undef) hi hs)⟩
     ·rename_i vs hq;rw[hq]at hy;have hw:Region.wanted o (yielded ops a.tmps)=false:=by simp[Region.wanted,hg,hy]
      refine wpListIn_step fun K hK=>?_
      rw[if_neg (by simp[hw])];exact⟨fun _ _=>trivial,hK _ _ (ih _ _ _ _ hk (hr.put hd1 undef) (hp.put hdd undef) hi hs)⟩
     ·exact hk.elim
end
def Jv (P:Program) (src dst:TypeId) (x:Value) (h:Hp) (K:Value->Prop):Prop:=
 match x with
 | .int _ n=>(match P.underlying src,P.underlying dst with
  |some (.int _),some (.int k)=>K (.int k (k.wrap n))
  |_,_=>False)
 | .slice base len _=>(match P.underlying src,P.underlying dst with
  |some (.slice e),some .string=>P.underlying e=some (.int .u8)/\(match base with
   |none=>K (.string ByteArray.empty)
   |some ⟨b,o,none⟩=>(match h.f b with
    |some (.cells c _ _)=>(match(cG c o len).bind bytesOf with
     |some bs=>K (.string ⟨bs.toArray⟩)
     |none=>False)
    |_=>False)
   |_=>False)
  |_,_=>False)
 |_=>False
theorem AB {P:Program} {src dst:TypeId} {x:Value} {h:Hp} {K:Value->Prop} (hk:Jv P src dst x h K):PG P (convert src dst x) h K:=by
 unfold Jv at hk;split at hk
 ·rename_i k n;split at hk
  ·rename_i k1 k2 h1 h2;exact .here (fun w _=>by simp[convert,run_underlying h1,run_underlying h2,Conv.intToInt]) hk
  ·exact hk.elim
 ·rename_i base len cap;split at hk
  ·rename_i e h1 h2;obtain⟨he,hk⟩:=hk;split at hk
   ·refine .here (fun w _=>?_) hk;exact run_convert_bytes_nil w src e h1 he _ _ dst h2
   ·rename_i b o;split at hk
    ·rename_i c t fz hc;split at hk
     ·rename_i bs hb;refine .here (fun w hi=>?_) hk;cases hl:cG c o len with
      |none=>rw[hl]at hb;cases hb
      |some l=>
       rw[hl]at hb;obtain⟨ns,rfl,rfl⟩:=mq l bs hb;have hload:=run_loadCells (P:=P) (w:=w) (fun i=>hi.cell (i:=i) hc) hl;rw[run_convert_bytes_string w src dst e _ _ _ h1 he h2,run_bytesToString w _ _ _ ns hload,foldl_push_bytes];simp[ByteArray.empty,ByteArray.emptyWithCapacity];rfl
     ·exact hk.elim
    ·exact hk.elim
   ·exact hk.elim
  ·exact hk.elim
 ·exact hk.elim
def yB (P:Program) (o:Op) (ρ:Env) (h:Hp) (K:Value->Prop):Prop:=
 match o with
 | .call c=>(match c.callee with
  | .value f=>PV P (ρ.ev f) (c.args.map ρ.ev) h K
  | .builtin b=>dk P b c.argTypes.toList (c.args.toList.map ρ.ev) h K
  |_=>False)
 | .convert src dst x=>Jv P src dst (ρ.ev x) h K
 |o=>de P o ρ h K
def Cls (h:Hp) (w0 w:World):Prop:=∃n,h.n<=n/\Is w (h.to n)/\bG w0 w
theorem qu {P:Program} {o:Oper} {a:Act} {ρ:Env} {h:Hp} {w0:World} {K:Value->Prop} (he:a.eval=ρ.ev) (hk:yB P o.op ρ h K):∃v,K v/\∀w,Cls h w0 w->o.quietAt P a (Cls h w0) w v:=by
 have pure_:∀{v:Value},(∀w,Fits w h->(execOp ρ.ev o).run P w= .ok (.value v) w)->∀w,Cls h w0 w->o.quietAt P a (Cls h w0) w v:=fun hr w ⟨n,_,hi,_⟩=>by
  unfold Oper.quietAt;rw[he,hr w hi.2];exact⟨rfl,rfl⟩
 unfold yB at hk;split at hk
 ·rename_i c hc;split at hk
  ·rename_i f hf;unfold PV at hk;split at hk
   ·rename_i g first captured hg
    obtain⟨v,⟨hcall,hq⟩,hv⟩:=hk;refine⟨v,hv,fun w ⟨n,hn,hi,hs⟩=>?_⟩;obtain⟨dst,op,ty,pos,after,guard⟩:=o;obtain⟨callee,args,ats⟩:=c;dsimp only at hc hf hg hq;subst hc hf
    have hrun:(execOp ρ.ev ⟨dst,.call {callee:= .value f,args:=args,argTypes:=ats},ty,pos,after,guard⟩).run P w= .ok (.enter g (first++args.map ρ.ev++captured)) w:=by
     simp only[execOp,resolve,hg,Deferred.ofValue,invoke,Sem.run_bind,Sem.run_pure,Result.andThen_ok,mz hcall]
    unfold Oper.quietAt;rw[he,hrun];refine⟨rfl,(hq n hn w hi).mono fun e w' ⟨u,g',h1,h2,h3,h4,k,h5,h6⟩=>?_⟩;subst h1 h4 h6;exact⟨rfl,k,by omega,h2,hs.trans h3⟩
   ·exact hk.elim
  ·rename_i b hb
   have:de P o.op ρ h K:=by
    rw[hc];unfold de;simp only[hb];exact hk
   obtain⟨v,hv,hr⟩:=nD this;exact⟨v,hv,pure_ hr⟩
  ·exact hk.elim
 ·rename_i src dst x hc;obtain⟨v,hv,hr⟩:=AB hk;refine⟨v,hv,pure_ fun w hw=>?_⟩;obtain⟨dst',op,ty,pos,after,guard⟩:=o;dsimp only at hc;subst hc;simp only[execOp,Sem.run_bind,hr w hw,Result.andThen_ok];rfl
 ·obtain⟨v,hv,hr⟩:=nD hk;exact⟨v,hv,pure_ hr⟩
def uG (P:Program) (ops:Array Oper) (h:Hp):List Oper->Env->(Env->Prop)->Prop
 | [],ρ,N=>N ρ
 |o::l,ρ,N=>(match o.guard with
  |none=>yB P o.op ρ h fun v=>uG P ops h l (ρ.put o.dst v) N
  |some (j,want)=>(match jq ops j with
   |none=>False
   |some t=>(match ρ t with
    | .bool q=>Br (q==want) (yB P o.op (ρ.upd t (.bool want)) h fun v=>uG P ops h l ((ρ.upd t (.bool want)).put o.dst v) N)
     (uG P ops h l ((ρ.upd t (.bool (!want))).put o.dst undef) N)
    | .tuple _=>uG P ops h l (ρ.put o.dst undef) N
    |_=>False)))
theorem sY {P:Program} {ops:Array Oper} {n:Nat} {ds:List Nat} {ρ0:Env} {h:Hp} {w0:World} {N:Env->Prop} {Q:Act->Prop} (hQ:∀a ρ,Rel n a ρ->fU ds ρ0 ρ->N ρ->Q a):
 ∀(l:List Oper),(∀o∈l,∀t,o.dst=some t->t<n/\ds.contains t=true)->∀(ρ:Env) (a:Act),uG P ops h l ρ N->Rel n a ρ->fU ds ρ0 ρ->wpQuiet P ops (Cls h w0) Q l a
 | [],_,ρ,a,hk,hr,hp=>hQ a ρ hr hp hk
 |o::l,hd,ρ,a,hk,hr,hp=>by
  have hd1:=hd o (by simp);have hdn:∀t,o.dst=some t->t<n:=fun t e=>(hd1 t e).1
  have hdd:∀t,o.dst=some t->ds.contains t=true:=fun t e=>(hd1 t e).2
  have ih:=sY (P:=P) (ops:=ops) (h:=h) (w0:=w0) hQ l (fun o' ho=>hd o' (by simp[ho]));unfold uG at hk;unfold wpQuiet;split at hk
  ·rename_i hg;rw[if_pos (by simp[Region.wanted,hg])];obtain⟨v,hv,hq⟩:=qu (w0:=w0) hr.eval hk;exact⟨v,hq,ih _ _ hv (hr.put hdn v) (hp.put hdd v)⟩
  ·rename_i j want hg;split at hk
   ·exact hk.elim
   ·rename_i t ht;have hy:=pF hr ops ht;split at hk
    ·rename_i q hq;rw[hq]at hy;rcases ER hk with⟨hqw,hk2⟩|⟨hqw,hk2⟩
     ·have hqw:q=want:=by simpa using hqw
      subst hqw;rw[mA hq]at hk2;rw[if_pos (by simp[Region.wanted,hg,hy])];obtain⟨v,hv,hq⟩:=qu (w0:=w0) hr.eval hk2;exact⟨v,hq,ih _ _ hv (hr.put hdn v) (hp.put hdd v)⟩
     ·have hqw:q=!want:=by cases q<;>cases want<;>simp_all
      subst hqw;rw[mA hq]at hk2;rw[if_neg (by simp[Region.wanted,hg,hy])];exact ih _ _ hk2 (hr.put hdn undef) (hp.put hdd undef)
    ·rename_i vs hq;rw[hq]at hy;rw[if_neg (by simp[Region.wanted,hg,hy])];exact ih _ _ hk (hr.put hdn undef) (hp.put hdd undef)
    ·exact hk.elim
def Jw (l:List Oper):List Nat:=l.filterMap (·.dst)
def aF:Code->List Nat
 | .region _ ops _=>Jw ops.toList
 | .seq a b=>aF a++aF b
 | .cond _ a b=>aF a++aF b
 | .block _ c=>aF c
 | .loop c=>aF c
 | .scope c=>aF c
 |_=> []
abbrev EH:=Env->Hp->Prop
def Wf (h:Hp):Prop:=∀b o,h.f b=some o->b<h.n
theorem Is.wf {w:World} {h:Hp} (hi:Is w h):Wf h:=fun _ _ e=>hi.lt e
def Tv (B:EH->EH) (cd:List Nat) (ρ:Env) (h:Hp):Prop:=
 ∃(I:EH) (μ:Env->Hp->Nat),I ρ h/\∀ρ' h',I ρ' h'->Wf h'->fU cd ρ ρ'->B (fun ρ2 h2=>∃g,Sub g h2/\I ρ2 g/\μ ρ2 g<μ ρ' h') ρ' h'
def avc (P:Program):Code->EH->EH->(Nat->EH)->EH
 | .skip,N,_,_,ρ,h=>N ρ h
 | .region _ ops draw,N,_,_,ρ,h=>if draw=true then(Region.lexB .any ops=true/\uG P ops h ops.toList ρ fun ρ'=>∀n,h.n<=n->N ρ' (h.to n))∨(Az P ops=true/\kp P ops ops.toList ρ h N)∨De P ops ρ h N else AA P ops ops.toList ρ h N
 | .seq a b,N,R,X,ρ,h=>avc P a (fun ρ' h'=>avc P b N R X ρ' h') R X ρ h
 | .cond c a b,N,R,X,ρ,h=>(match ρ.ev c with
  | .bool q=>Br q (avc P a N R X ρ h) (avc P b N R X ρ h)
  |_=>False)
 | .block id c,N,R,X,ρ,h=>avc P c N R (fun i ρ' h'=>if i=id then N ρ' h' else X i ρ' h') ρ h
 | .loop c,_,R,X,ρ,h=>Tv (fun N' ρ' h'=>avc P c N' R X ρ' h') (aF c) ρ h
 | .exit i,_,_,X,ρ,h=>X i ρ h
 | .scope c,N,R,X,ρ,h=>avc P c N R X ρ h
 | .label _,N,_,_,ρ,h=>N ρ h
 | .ret,_,R,_,ρ,h=>R ρ h
 |_,_,_,_,_,_=>False
def VH (n:Nat) (ds:List Nat) (ρ0:Env) (w0:World) (N R:EH) (X:Nat->EH):Exit->Act->World->Prop
 | .normal,a,w=>∃ρ h,Rel n a ρ/\Is w h/\bG w0 w/\fU ds ρ0 ρ/\N ρ h
 | .ret,a,w=>∃ρ h,Rel n a ρ/\Is w h/\bG w0 w/\fU ds ρ0 ρ/\R ρ h
 | .exit i,a,w=>∃ρ h,Rel n a ρ/\Is w h/\bG w0 w/\fU ds ρ0 ρ/\X i ρ h
 |_,_,_=>False
theorem fU.mono {ds es:List Nat} {ρ0 ρ:Env} (hk:fU ds ρ0 ρ) (hs:∀t,ds.contains t=true->es.contains t=true):fU es ρ0 ρ:=fun t ht=>hk t (by
 cases h:ds.contains t with
 |false=>rfl
 |true=>rw[hs t h]at ht;cases ht)
theorem fU.trans {ds:List Nat} {a b c:Env} (h:fU ds a b) (k:fU ds b c):fU ds a c:=fun t ht=>(k t ht).trans (h t ht)
theorem wP {P:Program} {c:Code} {Q:Exit->Act->World->Prop} {γ:Type} (I:γ->Act->World->Prop) (μ:γ->Nat)
 (round:∀g a w,I g a w->c.wp P (Exit.then (fun a' w'=>∃g',I g' a' w'/\μ g'<μ g) Q) a w) {g:γ} {a:Act} {w:World} (h0:I g a w):(Code.loop c).wp P Q a w:=by
 intro b k cs
 have key:∀n g a w,μ g=n->I g a w->∃e a' w',Q e a' w'/\Arrives P (lone (b.at a (.code c:: .inLoop c::k)) cs w) b k cs e a' w':=by
  intro n
  induction n using Nat.strongRecOn with
  |_ n ih=>
   intro g a w hn hI;obtain⟨e,a₁,w₁,hq,harr⟩:=round g a w hI b (.inLoop c::k) cs;cases e with
   |normal=>
    obtain⟨g',hI₁,hlt⟩:=hq;obtain⟨e₂,a₂,w₂,hq₂,harr₂⟩:=ih (μ g') (hn▸hlt) g' a₁ w₁ rfl hI₁
    exact⟨e₂,a₂,w₂,hq₂,.of_steps (Steps.trans harr (.one step_inLoop)) harr₂⟩
   |exit id=>exact⟨_,a₁,w₁,hq,.pass (x:= .inLoop c) rfl (fun _ _=> .inl (by simp)) harr⟩
   |goto l=>exact⟨_,a₁,w₁,hq,.pass (x:= .inLoop c) rfl (fun _ _=> .inl (by simp)) harr⟩
   |ret=>exact⟨_,a₁,w₁,hq,.pass (x:= .inLoop c) rfl (fun _ _=> .inl (by simp)) harr⟩
   |panic ch=>exact⟨_,a₁,w₁,hq,.pass (x:= .inLoop c) rfl (fun _ _=> .inl (by simp)) harr⟩
   |outgrown=>exact⟨_,a₁,w₁,hq,.pass (x:= .inLoop c) rfl (fun _ _=> .inl (by simp)) harr⟩
 obtain⟨e,a',w',hq,harr⟩:=key _ g a w rfl h0
 exact⟨e,a',w',hq,.of_steps (.one step_loop) harr⟩
theorem sZ {l:List Oper} {n:Nat} {ds:List Nat} (hd:∀t∈Jw l,t<n/\ds.contains t=true):∀o∈l,∀t,o.dst=some t->t<n/\ds.contains t=true:=
 fun o ho t e=>hd t (List.mem_filterMap.2 ⟨o,ho,e⟩)
theorem Hm {P:Program} (hm:P.follows .mixedOrders=true) {n:Nat} {w0:World}:∀(c:Code) (ds:List Nat),(∀t∈aF c,t<n/\ds.contains t=true)->∀(N R:EH) (X:Nat->EH) (ρ0 ρ:Env) (h:Hp) (a:Act) (w:World),
 avc P c N R X ρ h->Rel n a ρ->Is w h->bG w0 w->fU ds ρ0 ρ->c.wp P (VH n ds ρ0 w0 N R X) a w:=by
 intro c
 induction c with
 |skip=>intro ds _ N R X ρ0 ρ h a w hk hr hi hs hp;exact wp_skip ⟨ρ,h,hr,hi,hs,hp,hk⟩
 |region id ops draw=>
  intro ds hd N R X ρ0 ρ h a w hk hr hi hs hp;have hd':=sZ (l:=ops.toList) hd;unfold avc at hk;split at hk
  ·rename_i hdr;subst hdr;rcases hk with hk|hk|hk
   case inr.inr=>exact wO (n:=n) (ds:=ds) (ρ0:=ρ0) (w0:=w0) hm hd' (fun a' w' ρ' h' hr' hp' hi' hs' hN=>⟨ρ',h',hr',hi',hs',hp',hN⟩) hk hr hp hi hs
   case inr.inl=>exact uF (n:=n) (ds:=ds) (ρ0:=ρ0) (w0:=w0) hm hk.1 hd' (fun a' w' ρ' h' hr' hp' hi' hs' hN=>⟨ρ',h',hr',hi',hs',hp',hN⟩) hk.2 hr hp hi hs
   refine wp_region_quiet (C:=Cls h w0) hm hk.1 ⟨h.n,Nat.le_refl _,hi,hs⟩ ?_;exact sY (fun a' ρ' hr' hp' hN w' ⟨k,hkn,hi',hs'⟩=>⟨ρ',h.to k,hr',hi',hs',hp',hN k hkn⟩) ops.toList hd' ρ a hk.2 hr hp
  ·rename_i hdr;have hdr:draw=false:=by simpa using hdr
   subst hdr;refine(wpIn_wide (n:=0)).1 (wpIn_region_list ?_);exact nH (r:=none) (d:=[]) (n:=n) (ds:=ds) (ρ0:=ρ0) (w0:=w0) (fun a' w' ρ' h' hr' hp' hi' hs' hN=>⟨ρ',h',hr',hi',hs',hp',hN⟩) ops.toList hd' ρ h a w hk hr hp hi hs
 |seq x y ihx ihy=>
  intro ds hd N R X ρ0 ρ h a w hk hr hi hs hp;refine wp_seq (Code.wp_mono (fun e a' w' hq=>?_) (ihx ds (fun t ht=>hd t (by simp[aF,ht])) (fun ρ' h'=>avc P y N R X ρ' h') R X ρ0 ρ h a w hk hr hi hs hp));cases e with
  |normal=>
   obtain⟨ρ',h',hr',hi',hs',hp',hN⟩:=hq;exact ihy ds (fun t ht=>hd t (by simp[aF,ht])) N R X ρ0 ρ' h' a' w' hN hr' hi' hs' hp'
  |_=>exact hq
 |cond t x y ihx ihy=>
  intro ds hd N R X ρ0 ρ h a w hk hr hi hs hp;unfold avc at hk;split at hk
  ·rename_i q hq;refine wp_cond_split (t:=q) (by rw[hr.eval,hq]) (fun e=>?_) (fun e=>?_)
   ·exact ihx ds (fun t ht=>hd t (by simp[aF,ht])) N R X ρ0 ρ h a w (hk.1 e) hr hi hs hp
   ·exact ihy ds (fun t ht=>hd t (by simp[aF,ht])) N R X ρ0 ρ h a w (hk.2 e) hr hi hs hp
  ·exact hk.elim
 |block id x ih=>
  intro ds hd N R X ρ0 ρ h a w hk hr hi hs hp;refine wp_block (Code.wp_mono (fun e a' w' hq=>?_) (ih ds hd N R (fun i ρ' h'=>if i=id then N ρ' h' else X i ρ' h') ρ0 ρ h a w hk hr hi hs hp));cases e with
  |exit i=>
   obtain⟨ρ',h',hr',hi',hs',hp',hX⟩:=hq;simp only[Exit.inBlock];split
   ·rename_i e;rw[if_pos e]at hX;exact⟨ρ',h',hr',hi',hs',hp',hX⟩
   ·rename_i e;rw[if_neg e]at hX;exact⟨ρ',h',hr',hi',hs',hp',hX⟩
  |_=>exact hq
 |loop x ih=>
  intro ds hd N R X ρ0 ρ h a w hk hr hi hs hp;obtain⟨I,μ,h0,hstep⟩:=hk;have hsub:∀t,(aF x).contains t=true->ds.contains t=true:=fun t ht=>(hd t (show t∈aF x from by simpa using ht)).2
  refine wP (γ:=Env×Hp) (fun g a' w'=>Rel n a' g.1/\Is w' g.2/\bG w0 w'/\fU (aF x) ρ g.1/\I g.1 g.2) (fun g=>μ g.1 g.2) (fun g a' w' ⟨hr',hi',hs',hp',hI⟩=>?_) (g:=(ρ,h)) ⟨hr,hi,hs,fun _ _=>rfl,h0⟩;have hb:=hstep g.1 g.2 hI hi'.wf hp';refine Code.wp_mono (fun e a2 w2 hq=>?_) (ih (aF x) (fun t ht=>⟨(hd t ht).1,by simpa using (show t∈aF x from ht)⟩) _ R X ρ g.1 g.2 a' w' hb hr' hi' hs' hp');cases e with
  |normal=>
   obtain⟨ρ2,h2,hr2,hi2,hs2,hp2,g2,hsub2,hI2,hlt⟩:=hq;exact⟨(ρ2,g2),⟨hr2,hi2.sub hsub2,hs2,hp2,hI2⟩,hlt⟩
  |ret=>
   obtain⟨ρ2,h2,hr2,hi2,hs2,hp2,hR⟩:=hq;exact⟨ρ2,h2,hr2,hi2,hs2,hp.trans (hp2.mono hsub),hR⟩
  |exit i=>
   obtain⟨ρ2,h2,hr2,hi2,hs2,hp2,hR⟩:=hq;exact⟨ρ2,h2,hr2,hi2,hs2,hp.trans (hp2.mono hsub),hR⟩
  |_=>exact hq
 |exit i=>intro ds _ N R X ρ0 ρ h a w hk hr hi hs hp;exact wp_exit ⟨ρ,h,hr,hi,hs,hp,hk⟩
 |scope x ih=>
  intro ds hd N R X ρ0 ρ h a w hk hr hi hs hp;refine wp_scope_straight (Code.wp_mono (fun e a' w' hq=>?_) (ih ds hd N R X ρ0 ρ h a w hk hr hi hs hp));cases e<;>exact hq
 |label l=>intro ds _ N R X ρ0 ρ h a w hk hr hi hs hp;exact wp_label ⟨ρ,h,hr,hi,hs,hp,hk⟩
 |ret=>intro ds _ N R X ρ0 ρ h a w hk hr hi hs hp;exact wp_ret ⟨ρ,h,hr,hi,hs,hp,hk⟩
 |_=>intro ds _ N R X ρ0 ρ h a w hk;exact hk.elim
def AD:List Value->Value
 | [v]=>v
 |l=> .tuple l.toArray
def tD (P:Program):List ResultVar->List Value->Env->Hp->KH->Prop
 | [],acc,_,g,K=>Fin K (AD acc.reverse) g
 | .tmp t::rs,acc,ρ,g,K=>tD P rs (ρ t::acc) ρ g K
 | .cell a t::rs,acc,ρ,g,K=>ki P t (ρ a) g fun v=>tD P rs (v::acc) ρ g K
def rI (tmps:Array Value) (x:ResultVar):Sem Value:=match x with
 | .tmp t=>pure (tmps.getD t undef)
 | .cell a t=>do
  loadVar t (<-asAddr (tmps.getD a undef))
theorem mE {P:Program} {n:Nat} {a:Act} {ρ:Env} (hr:Rel n a ρ) {g:Hp} {K:KH} {w:World} (hw:Fits w g):∀(rs:List ResultVar) (acc:List Value),tD P rs acc ρ g K->
 ∃vs,(rs.mapM (rI a.tmps)).run P w= .ok vs w/\Fin K (AD (acc.reverse++vs)) g
 | [],acc,h=>⟨[],by simp,by simpa[tD]using h⟩
 | .tmp t::rs,acc,h=>by
  obtain⟨vs,h1,h2⟩:=mE hr hw rs (ρ t::acc) h;refine⟨ρ t::vs,?_,by simpa using h2⟩;rw[List.mapM_cons];simp only[Sem.run_bind,rI,Sem.run_pure,Result.andThen_ok,h1,hr.2.2 t]
 | .cell x t::rs,acc,h=>by
  simp only[tD]at h;obtain⟨v,hv,hrun⟩:=sS h;obtain⟨vs,h1,h2⟩:=mE hr hw rs (v::acc) hv;refine⟨v::vs,?_,by simpa using h2⟩;rw[List.mapM_cons];have h3:=hrun w hw
  have hp:∃ad,ρ x= .pointer (some ad):=by
   unfold ki at h;split at h
   ·rename_i b o e;exact⟨_,e⟩
   ·exact h.elim
  obtain⟨ad,hp⟩:=hp
  have h4:(rI a.tmps (.cell x t)).run P w= .ok v w:=by
   simp only[rI,hr.2.2 x];rw[hp]at h3⊢;simpa[Instr.loadAt,Instr.sureAddr,asAddr]using h3
  simp only[Sem.run_bind,h4,Result.andThen_ok,h1,Sem.run_pure]
theorem qw {P:Program} {fn:Func} {tmps:Array Value} {w:World} {vs:List Value} (h:(fn.results.toList.mapM (rI tmps)).run P w= .ok vs w):(results fn tmps).run P w= .ok (AD vs) w:=by
 have e:(results fn tmps)=(do
  let vs<-fn.results.mapM (rI tmps)
  pure (if h:vs.size=1 then vs[0]else .tuple vs)):=rfl
 rw[e,Array.mapM_eq_mapM_toList];simp only[Sem.run_bind,Sem.run_map,h,Result.andThen_ok,Sem.run_pure];congr 1
 match vs with
 | []=>rfl
 | [v]=>rfl
 |v::u::l=>rfl
def iA:List Value->Nat->Env
 | [],_=>fun _=>undef
 |v::l,k=>(iA l (k+1)).upd k v
theorem nI:∀(l:List Value) (k t:Nat),iA l k t=if k<=t then(l[t-k]?).getD undef else undef
 | [],k,t=>by simp[iA]
 |v::l,k,t=>by
  simp only[iA,Env.upd];rw[nI l (k+1) t];by_cases e:t=k
  ·subst e;simp
  ·rw[if_neg e];by_cases h1:k<=t
   ·have h2:k+1<=t:=by omega
    rw[if_pos h1,if_pos h2];obtain⟨d,rfl⟩:∃d,t=k+1+d:=⟨t-(k+1),by omega⟩;rw[show k+1+d-(k+1)=d from by omega,show k+1+d-k=d+1 from by omega];simp
   ·rw[if_neg h1,if_neg (by omega)]
theorem xc {args:Array Value} {n:Nat} (hl:args.size<=n):Rel n ⟨args++Array.replicate (n-args.size) undef,[]⟩ (iA args.toList 0):=by
 refine⟨rfl,by simp;omega,fun t=>?_⟩;rw[nI];simp only[Nat.zero_le,if_true,Nat.sub_zero,Array.getElem?_toList];simp only[Array.getD_eq_getD_getElem?];by_cases ht:t<args.size
 ·rw[Array.getElem?_append_left ht]
 ·have h2:args[t]?=none:=Array.getElem?_eq_none (by omega);rw[Array.getElem?_append_right (by omega),h2];simp[Array.getElem?_replicate];split<;>rfl
theorem Jx {P:Program} (hm:P.follows .mixedOrders=true) {f:FuncId} {fn:Func} {c:Code} (hf:P.funcs[f]?=some fn) (hb:fn.body=some c) {n:Nat} (hn:fn.ntmps=n) {rs:Array ResultVar} (hr:fn.results=rs)
 (hok:((aF c).all fun t=>decide (t<n))=true) {args:Array Value} (hl:args.size<=n) {h:Hp} {K:KH}
 (hk:Wf h->avc P c (fun ρ g=>tD P rs.toList [] ρ g K) (fun ρ g=>tD P rs.toList [] ρ g K) (fun _ _ _=>False) (iA args.toList 0) h):um P f args h K:=by
 intro w hi;refine calls_of_wp hf hb ?_;rw[hn];have hd:∀t∈aF c,t<n/\(aF c).contains t=true:=fun t ht=>⟨by simpa using List.all_eq_true.1 hok t ht,by simpa using ht⟩
 have hs:=Hm hm (w0:=w) c (aF c) hd _ _ _ _ _ h _ w (hk hi.wf) (xc hl) hi (bG.refl w) (fun _ _=>rfl);refine Code.wp_mono (fun e a w' hq=>?_) hs
 have fin:∀ρ g,Rel n a ρ->Is w' g->bG w w'->tD P rs.toList [] ρ g K->a.defers=[]/\∃v,(results fn a.tmps).run P w'= .ok v w'/\∃v' h',Ending.returned v= .returned v'/\Is w' h'/\bG w w'/\K v' h':=by
  intro ρ g hr' hi' hs' hK;obtain⟨vs,h1,g',hsub,hK'⟩:=mE hr' hi'.2 rs.toList [] hK;rw[<-hr]at h1;exact⟨hr'.1,_,qw h1,_,g',rfl,hi'.sub hsub,hs',hK'⟩
 cases e with
 |normal=>obtain⟨ρ,g,hr',hi',hs',_,hK⟩:=hq;exact fin ρ g hr' hi' hs' hK
 |ret=>obtain⟨ρ,g,hr',hi',hs',_,hK⟩:=hq;exact fin ρ g hr' hi' hs' hK
 |exit i=>obtain⟨ρ,g,hr',hi',hs',_,hK⟩:=hq;exact hK.elim
 |_=>exact hq.elim
inductive PM (α:Type)where
 |nil
 |node (l:PM α) (v:Option α) (r:PM α)
noncomputable def PM.get {α:Type} (t:PM α):Nat->Option α:=
 PM.rec (fun _=>none) (fun _ v _ gl gr n=>Nat.rec v (fun m _=>Nat.rec (gl (Nat.div m 2)) (fun _ _=>gr (Nat.div m 2)) (Nat.mod m 2)) n) t
noncomputable def PM.set {α:Type} (v:Option α) (f:Nat):PM α->Nat->PM α:=
 Nat.rec (fun _ _=> .nil) (fun _ ih t n=>PM.rec
  (Nat.rec (.node .nil v .nil) (fun m _=>Nat.rec (.node (ih .nil (Nat.div m 2)) none .nil) (fun _ _=> .node .nil none (ih .nil (Nat.div m 2))) (Nat.mod m 2)) n)
  (fun l u r _ _=>Nat.rec (.node l v r) (fun m _=>Nat.rec (.node (ih l (Nat.div m 2)) u r) (fun _ _=> .node l u (ih r (Nat.div m 2))) (Nat.mod m 2)) n) t) f
inductive AV where
 |int (k:IntKind) (n:Int)
 |str (s:List Nat)
 |bool (b:Bool)
 |nil
 |ptr (b o:Nat)
 |nsl
 |sl (b o n c k:Nat)
 |esl (b:Nat)
 |agg (l:List AV)
 |tup (l:List AV)
 |fn (f:Nat) (a c:List AV)
 |map (b:Nat)
 |any (v:Value)
 |bad
 |si (k:IntKind) (n:Int)
 |sb (b:Bool)
 |ss (s:List Nat)
 |sy (b o n c k:Nat)
 |rw (b o n k x:Nat)
 |fr (n k:Nat) (l:List AV)
 |fa (l:List AV) (o:Nat)
structure Fz where
 B:Nat
 s:Nat
 L:List AV
structure HP where
 P:(Fz->Prop)->(Nat->Prop)->Hp->Prop
 loc:∀z S h g,h.n<=g.n->(∀B,S B->g.f B=h.f B)->P z S h->P z S g
 mono:∀z z' S h,(∀q,z q->z' q)->P z S h->P z' S h
 ex:∀z S h B,P z S h->S B->∃o,h.f B=some o
inductive AO where
 |cells (l:List AV) (z:Bool)
 |map (es:List (AV×AV))
 |mp (es:List (AV×AV)) (bs:List Nat) (cl:Nat)
 |ro (l:List AV)
 |iter (b m:Nat) (seen:List Nat)
 |sep (Q:HP)
abbrev AE:=PM AV
abbrev AH:=PM AO
def cM:AV:= .tup []
noncomputable def AF:Value->AV
 | .int k n=> .int k n
 | .string s=> .str (s.data.toList.map UInt8.toNat)
 | .bool b=> .bool b
 | .pointer none=> .nil
 | .slice none 0 0=> .nsl
 |v=> .any v
noncomputable def ofV:Value->AV
 | .agg cs=> .agg (cs.toList.map AF)
 | .tuple cs=> .tup (cs.toList.map AF)
 |v=>AF v
noncomputable def AV.cells:AV->List AV
 | .agg l=>l
 |v=> [v]
noncomputable def nJ:AV->Bool
 | .agg _| .tup _=>false
 | .any v=>v.oneCell'
 | .bad=>false
 |_=>true
noncomputable def okC:AV->Bool
 | .bad=>false
 | .any u=>u.oneCell'
 |_=>true
noncomputable def eg:Nat:=30
noncomputable def aa:Nat:=40
inductive Pa where
 |stop
 |here
 |lo (p:Pa)
 |hi (p:Pa)
noncomputable def pathOf (f:Nat):Nat->Pa:=
 Nat.rec (fun _=> .stop) (fun _ ih n=>Nat.rec .here (fun m _=>Nat.rec (.lo (ih (Nat.div m 2))) (fun _ _=> .hi (ih (Nat.div m 2))) (Nat.mod m 2)) n) f
noncomputable def pa (t:Nat):Pa:=pathOf eg t
noncomputable def VI (v:Option AV):AV:=Option.rec .bad (fun a=>a) v
noncomputable def ak (p:Pa):AE->AV:=
 Pa.rec (fun _=> .bad) (fun t=>PM.rec .bad (fun _ v _ _ _=>VI v) t) (fun _ ih t=>PM.rec .bad (fun l _ _ _ _=>ih l) t) (fun _ ih t=>PM.rec .bad (fun _ _ r _ _=>ih r) t) p
noncomputable def rJ (v:AV) (p:Pa):AE->AE:=
 Pa.rec (fun _=> .nil) (fun t=>PM.rec (.node .nil (some v) .nil) (fun l _ r _ _=> .node l (some v) r) t)
  (fun _ ih t=>PM.rec (.node (ih .nil) none .nil) (fun l u r _ _=> .node (ih l) u r) t) (fun _ ih t=>PM.rec (.node .nil none (ih .nil)) (fun l u r _ _=> .node l u (ih r)) t) p
noncomputable def VJ (d:Option Nat) (v:AV) (σ:AE):AE:=Option.rec σ (fun t=>rJ v (pa t) σ) d
noncomputable def eev (σ:AE):Operand->AV
 | .tmp t=>ak (pa t) σ
 | .const v=>ofV v
 | .func f=> .fn f [] []
 | .global g=> .any (.pointer (some ⟨g,0,none⟩))
noncomputable def cN (σ:AE) (d:Option Nat) (v:AV):AE:=VJ d v σ
noncomputable def nth {α:Type}:List α->Nat->Option α
 | [],_=>none
 |x::_,0=>some x
 |_::l,n+1=>nth l n
noncomputable def dp:List Nat->List Nat->Bool
 | [],[]=>true
 |a::x,b::y=>(match Nat.beq a b with
  |true=>dp x y
  |false=>false)
 |_,_=>false
noncomputable def ltL:List Nat->List Nat->Bool
 |_,[]=>false
 | [],_::_=>true
 |a::x,b::y=>(match Nat.beq a b with
  |true=>ltL x y
  |false=>Nat.blt a b)
noncomputable def bp {α:Type} (l:List α) (o n:Nat):Option (List α):=(match Nat.ble (o+n) l.length with
 |true=>some ((l.drop o).take n)
 |false=>none)
noncomputable def eY {α:Type}:List α->Nat->List α->Option (List α)
 |l,0,[]=>some l
 | [],0,_::_=>none
 | [],_+1,_=>none
 |_::l,0,x::xs=>(eY l 0 xs).map (x::·)
 |y::l,o+1,xs=>(eY l o xs).map (y::·)
noncomputable def xd (P:Program) (t:TypeId) (a:AV) (H:AH):Option AV:=match a with
 | .ptr b o=>(match H.get b with
  |some (.cells l _)=>(match m8 P t with
   |some false=>nth l o
   |some true=>(match aB P t with
    |some n=>(bp l o n).map .agg
    |none=>none)
   |none=>none)
  |some (.ro l)=>(match m8 P t with
   |some false=>nth l o
   |some true=>(match aB P t with
    |some n=>(bp l o n).map .agg
    |none=>none)
   |none=>none)
  |_=>none)
 |_=>none
noncomputable def Ng (op:BinOp) (k k':IntKind) (a b:Int):Option AV:=match op with
 | .shl=>if 0<=b then some (.int k (k.wrap (a*2^min b.toNat k.bits)))else none
 | .shr=>if 0<=b then some (.int k (a.fdiv (2^min b.toNat k.bits)))else none
 |op=>if k=k' then(match op with
  | .add=>some (.int k (k.wrap (a+b)))
  | .sub=>some (.int k (k.wrap (a-b)))
  | .mul=>some (.int k (k.wrap (a*b)))
  | .quo=>if b=0 then none else some (.int k (k.wrap (a.tdiv b)))
  | .rem=>if b=0 then none else some (.int k (a.tmod b))
  | .and=>some (.int k (bY .and k a b))
  | .or=>some (.int k (bY .or k a b))
  | .xor=>some (.int k (bY .xor k a b))
  | .andNot=>some (.int k (bY .andNot k a b))
  | .eql=>some (.bool (decide (a=b)))
  | .neq=>some (.bool (!decide (a=b)))
  | .lss=>some (.bool (decide (a<b)))
  | .leq=>some (.bool (decide (a<=b)))
  | .gtr=>some (.bool (decide (b<a)))
  | .geq=>some (.bool (decide (b<=a)))
  |_=>none)else none
noncomputable def Jy (op:BinOp) (a b:List Nat):Option AV:=match op with
 | .add=>if a.length+b.length<=9223372036854775807 then some (.str (a++b))else none
 | .eql=>some (.bool (dp a b))
 | .neq=>some (.bool (!dp a b))
 | .lss=>some (.bool (ltL a b))
 | .leq=>some (.bool (ltL a b||dp a b))
 | .gtr=>some (.bool (!(ltL a b||dp a b)))
 | .geq=>some (.bool (!ltL a b))
 |_=>none
noncomputable def Jz:AV->Option Bool
 | .nil=>some true
 | .ptr _ _=>some false
 | .any (.pointer a)=>some a.isNone
 |_=>none
noncomputable def JA:AV->Option Bool
 | .nsl=>some true
 | .sl .. =>some false
 | .esl _=>some false
 |_=>none
noncomputable def pn (op:BinOp) (q:Option Bool):Option AV:=match q with
 |none=>none
 |some q=>(match op with
  | .eql=>some (.bool q)
  | .neq=>some (.bool (!q))
  |_=>none)
noncomputable def jr (xs ys:List AV):List (Nat×Nat)->Option Bool
 | []=>some true
 |(k,o)::l=>(match nth xs o,nth ys o with
  |some (.int k1 a),some (.int k2 b)=>if k=0/\k1=k2 then(jr xs ys l).map (decide (a=b)&&·)else none
  |some (.str a),some (.str b)=>if k=1 then(jr xs ys l).map (dp a b&&·)else none
  |some (.bool a),some (.bool b)=>if k=2 then(jr xs ys l).map ((a==b)&&·)else none
  |_,_=>none)
noncomputable def Dg (P:Program) (t:TypeId):Bool:=match P.underlying t with
 |some (.pointer _)=>true
 |_=>false
noncomputable def uH (P:Program) (t:TypeId):Bool:=match P.underlying t with
 |some (.slice _)=>true
 |_=>false
noncomputable def tM (P:Program) (t:TypeId):Bool:=match P.underlying t with
 |some .bool=>true
 |_=>false
noncomputable def yC (H:AH) (b:Nat):Bool:=match H.get b with
 |some (.cells _ true)=>true
 |_=>false
noncomputable def Tw (P:Program) (t:TypeId) (H:AH) (b o b' o':Nat):Option Bool:=match P.underlying t with
 |some (.pointer e)=>(match aB P e with
  |some (_+1)=>(match Nat.beq b b'&&Nat.beq o o' with
   |true=>some true
   |false=>if yC H b&&yC H b' then some false else none)
  |_=>none)
 |_=>none
noncomputable def wQ (P:Program) (op:BinOp) (t:TypeId) (x y:AV) (H:AH):Option AV:=match x,y with
 | .int k a,.int k' b=>Ng op k k' a b
 | .str a,.str b=>Jy op a b
 | .bool a,.bool b=>if tM P t then pn op (some (a==b))else none
 | .ptr b o,.ptr b' o'=>pn op (Tw P t H b o b' o')
 |x,.nil=>if Dg P t then pn op (Jz x)else none
 |x,.nsl=>if uH P t then pn op (JA x)else none
 | .agg xs,.agg ys=>pn op ((iu P t).bind (jr xs ys))
 |_,_=>none
noncomputable def eun (op:UnOp) (x:AV):Option AV:=match op,x with
 | .not,.bool b=>some (.bool (!b))
 | .neg,.int k n=>some (.int k (k.wrap (0-n)))
 | .xor,.int k n=>some (.int k (bY .xor k (if k.signed then-1 else k.max) n))
 |_,_=>none
noncomputable def xe (P:Program) (t:TypeId) (l:List AV) (off:Nat):Option AV:=match m8 P t with
 |some false=>nth l off
 |some true=>(match aB P t with
  |some n=>(bp l off n).map .agg
  |none=>none)
 |none=>none
noncomputable def Dh (P:Program) (s:TypeId) (x:AV) (i:Nat):Option AV:=match x,oC P s i with
 | .agg l,some (t,off)=>xe P t l off
 |_,_=>none
noncomputable def pH (P:Program) (s:TypeId) (x:AV) (i:Nat):Option AV:=match x,oC P s i with
 | .ptr b o,some (_,off)=>some (.ptr b (o+off))
 | .fa l o,some (_,off)=>some (.fa l (o+off))
 |_,_=>none
noncomputable def eix (ix:AV) (len:Nat):Option Nat:=match ix with
 | .int _ (.ofNat i)=>(match Nat.blt i len with
  |true=>some i
  |false=>none)
 |_=>none
noncomputable def pI (P:Program) (t:TypeId) (x ix:AV):Option AV:=match P.underlying t,x with
 |some (.slice e),.sl b o n _ _=>(match eix ix n,aB P e with
  |some i,some k=>some (.ptr b (o+i*k))
  |_,_=>none)
 |some (.array len e),.ptr b o=>(match eix ix len,aB P e with
  |some i,some k=>some (.ptr b (o+i*k))
  |_,_=>none)
 |_,_=>none
noncomputable def Di (P:Program) (t:TypeId) (x ix:AV):Option AV:=match P.underlying t,x with
 |some (.array len e),.agg l=>(match eix ix len,aB P e with
  |some i,some k=>xe P e l (i*k)
  |_,_=>none)
 |some .string,.str s=>(match eix ix s.length with
  |some i=>(nth s i).map fun c=> .int .u8 (Int.ofNat c)
  |none=>none)
 |_,_=>none
noncomputable def uI (x:AV) (i:Nat):Option AV:=match x with
 | .tup l=>nth l i
 |_=>none
noncomputable def lG (x:Option AV) (d:Nat):Option Nat:=match x with
 |none=>some d
 |some (.int _ (.ofNat i))=>some i
 |_=>none
noncomputable def iR (P:Program) (t:TypeId) (x:AV) (lo hi mx:Option AV):Option AV:=match x with
 | .str s=>(match P.underlying t,mx,lG lo 0,lG hi s.length with
  |some .string,none,some l,some h=>if l<=h/\h<=s.length then some (.str ((s.drop l).take (h-l)))else none
  |_,_,_,_=>none)
 | .nsl=>(match P.underlying t,lG lo 0,lG hi 0,lG mx 0 with
  |some (.slice e),some l,some h,some m=>if l=0/\h=0/\m=0/\(mx.isSome=true->hi.isSome=true)/\(aB P e).isSome=true then some .nsl else none
  |_,_,_,_=>none)
 | .esl b=>(match P.underlying t,mx,lG lo 0,lG hi 0 with
  |some (.slice e),none,some l,some h=>if l=0/\h=0/\(aB P e).isSome=true then some (.esl b)else none
  |_,_,_,_=>none)
 | .sl b o n c k=>(match P.underlying t with
  |some (.slice e)=>(match aB P e,lG lo 0,lG hi n,lG mx c with
   |some es,some l,some h,some m=>if l<=h/\h<=m/\m<=c then
    (match k,mx with
    |0,none=>some (.sl b (if m=l then o else o+l*es) (h-l) (m-l) 0)
    |0,some _=>if hi.isSome=true then some (.sl b (if m=l then o else o+l*es) (h-l) (m-l) 0)else none
    |k'+1,none=>if es=k'+1 then(if l=0∨l<c then some (.sl b (o+l*es) (h-l) (c-l) (k'+1))else some (.esl b))else none
    |_+1,some _=>if hi.isSome=true then some (.sl b (if m=l then o else o+l*es) (h-l) (m-l) 0)else none)
    else none
   |_,_,_,_=>none)
  |_=>none)
 |_=>none
noncomputable def Hn (P:Program) (t:TypeId) (x:AV) (H:AH):Option AV:=match P.underlying t,x with
 |some .string,.str s=>some (.int .i64 s.length)
 |some (.slice _),.nsl=>some (.int .i64 0)
 |some (.slice _),.esl _=>some (.int .i64 0)
 |some (.slice _),.sl _ _ n _ _=>some (.int .i64 n)
 |some (.array n _),_=>some (.int .i64 n)
 |some (.map _ _),.map b=>(match H.get b with
  |some (.map es)=>some (.int .i64 es.length)
  |some (.mp es _ _)=>some (.int .i64 es.length)
  |_=>none)
 |_,_=>none
noncomputable def emm (mx:Bool) (x y:AV):Option AV:=match x,y with
 | .int k a,.int _ b=>some (.int k (if mx then max a b else min a b))
 |_,_=>none
noncomputable def xf (place:Nat->Option (Nat×Nat)) (cells:List AV):List (Nat×AV)->Option (List AV)
 | []=>some cells
 |(i,v)::rest=>(match place i with
  |none=>none
  |some (off,size)=>(match Nat.beq v.cells.length size&&(okC v&&Nat.ble (off+size) cells.length),eY cells off v.cells with
   |true,some c=>xf place c rest
   |_,_=>none))
noncomputable def Dj (P:Program) (t:TypeId) (parts:List (Nat×AV)):Option (List AV):=
 match cL P t with
 |some z=>(match P.underlying t with
  |some (.struct fs)=>if(fs.toList.all fun f=>(aB P f.type).isSome)=true then xf (iv P fs) (ofV z).cells parts else none
  |some (.array _ e)=>(match aB P e with
   |some s=>xf (fun i=>some (i*s,s)) (ofV z).cells parts
   |none=>none)
  |_=>none)
 |none=>none
noncomputable def uJ:List AV->List AV->Option Bool
 | [],[]=>some true
 | .str a::xs,.str b::ys=>(uJ xs ys).map (dp a b&&·)
 |_,_=>none
noncomputable def AG (kd:TypeDesc) (a b:AV):Option Bool:=match kd,a,b with
 | .int _,.int k n,.int k' m=>if k=k' then some (decide (n=m))else none
 | .string,.str s,.str r=>some (dp s r)
 | .struct fs,.agg xs,.agg ys=>(match jr xs ys (jM fs),uJ xs ys with
  |some p,some q=>if p=q then some q else none
  |_,_=>none)
 |_,_,_=>none
noncomputable def yD (kd:TypeDesc) (k:AV):Bool:=match kd,k with
 | .struct fs,.agg xs=>(jr xs xs (jM fs)).isSome
 | .struct _,_=>false
 |_,_=>true
noncomputable def lH (kd:TypeDesc) (k:AV):List (AV×AV)->Nat->Option (Option (Nat×AV))
 | [],_=>(match yD kd k with
  |true=>some none
  |false=>none)
 |e::es,i=>(match AG kd k e.1 with
  |some true=>some (some (i,e.2))
  |some false=>lH kd k es (i+1)
  |none=>none)
noncomputable def rL (P:Program) (kd:TypeDesc) (et:TypeId) (k:AV) (ok:Bool) (es:List (AV×AV)):Option AV:=match lH kd k es 0 with
 |some (some (_,v))=>some (if ok then .tup [v,.bool true]else v)
 |some none=>(match cL P et with
  |some z=>some (if ok then .tup [ofV z,.bool false]else ofV z)
  |none=>none)
 |none=>none
noncomputable def jj (P:Program) (t:TypeId) (m k:AV) (ok:Bool) (H:AH):Option AV:=match m,dq P t with
 | .map b,some (_,kd,et)=>(match H.get b with
  |some (.map es)=>rL P kd et k ok es
  |some (.mp es _ _)=>rL P kd et k ok es
  |_=>none)
 |_,_=>none
noncomputable def qy (P:Program) (o:Op) (σ:AE) (H:AH):Option AV:=
 match o with
 | .move x=>some (eev σ x)
 | .assign x=>some (eev σ x)
 | .pick c a b=>(match eev σ c with
  | .bool true=>some (eev σ a)
  | .bool false=>some (eev σ b)
  |_=>none)
 | .build t parts=>(Dj P t (parts.toList.map fun x=>(x.1,eev σ x.2))).map .agg
 | .load t a=>xd P t (eev σ a) H
 | .nilCheck x=>(match eev σ x with
  | .ptr b o=>some (.ptr b o)
  | .fn f a c=>some (.fn f a c)
  |_=>none)
 | .binOp op t x y _=>wQ P op t (eev σ x) (eev σ y) H
 | .unOp op _ x=>eun op (eev σ x)
 | .makeFunc (.func f) first captured=>some (.fn f (first.toList.map (eev σ)) (captured.toList.map (eev σ)))
 | .slice t x lo hi mx=>iR P t (eev σ x) (lo.map (eev σ)) (hi.map (eev σ)) (mx.map (eev σ))
 | .fieldAddr s x i=>pH P s (eev σ x) i
 | .field t x i=>Dh P t (eev σ x) i
 | .indexAddr t x ix=>pI P t (eev σ x) (eev σ ix)
 | .index t x ix=>Di P t (eev σ x) (eev σ ix)
 | .extract x i=>uI (eev σ x) i
 | .lookup t m k ok=>jj P t (eev σ m) (eev σ k) ok H
 | .call c=>(match c.callee,c.argTypes.toList,c.args.toList.map (eev σ)with
  | .builtin .len,[t],[x]=>Hn P t x H
  | .builtin .min,_,[x,y]=>emm false x y
  | .builtin .max,_,[x,y]=>emm true x y
  |_,_,_=>none)
 |_=>none
abbrev AR:=Option (AV×AH×Nat)
noncomputable def Nh (l:List AV) (H:AH) (n:Nat):AR:=some (.ptr n 0,H.set (some (.cells l true)) aa n,n+1)
noncomputable def yE (P:Program) (t:TypeId) (a v:AV) (H:AH) (n:Nat):AR:=match a with
 | .ptr b o=>(match H.get b,aB P t with
  |some (.cells l z),some s=>(match Nat.beq v.cells.length s&&(okC v&&v.cells.all nJ),eY l o v.cells with
   |true,some l'=>some (cM,H.set (some (.cells l' z)) aa b,n)
   |_,_=>none)
  |_,_=>none)
 |_=>none
noncomputable def iB (z:List AV):Nat->List AV
 |0=> []
 |n+1=>z++iB z n
noncomputable def kq:List AV->Option (List Nat)
 | []=>some []
 | .int .u8 (.ofNat n)::l=>(match Nat.blt n 256 with
  |true=>(kq l).map (n::·)
  |false=>none)
 | .si .u8 (.ofNat n)::l=>(match Nat.blt n 256 with
  |true=>(kq l).map (n::·)
  |false=>none)
 |_=>none
noncomputable def AI (P:Program) (src dst:TypeId) (x:AV) (H:AH) (n:Nat):AR:=match P.underlying src,P.underlying dst,x with
 |some (.int _),some (.int k),.int _ a=>some (.int k (k.wrap a),H,n)
 |some .string,some .string,.str s=>some (.str s,H,n)
 |some .string,some (.slice e),.str s=>(match P.underlying e with
  |some (.int .u8)=>some (.sl n 0 s.length s.length 1,H.set (some (.cells (s.map fun c=> .int .u8 (Int.ofNat c)) false)) aa n,n+1)
  |_=>none)
 |some (.slice e),some .string,.nsl=>(match P.underlying e with
  |some (.int .u8)=>some (.str [],H,n)
  |_=>none)
 |some (.slice e),some .string,.sl b o len _ _=>(match P.underlying e,H.get b with
  |some (.int .u8),some (.cells l _)=>((bp l o len).bind kq).map fun s=>(.str s,H,n)
  |_,_=>none)
 |_,_,_=>none
noncomputable def uK (P:Program) (t:TypeId) (len cap:AV) (H:AH) (n:Nat):AR:=match P.underlying t,len,cap with
 |some (.slice e),.int _ (.ofNat l),.int _ (.ofNat c)=>(match aB P e,jS P e,cL P e with
  |some k,some by',some z=>if l<=c/\by'*c<=281474976710656/\c<=9223372036854775807/\z.cells.size=k then
   some (.sl n 0 l c 0,H.set (some (.cells (iB (ofV z).cells c) true)) aa n,n+1)else none
  |_,_,_=>none)
 |_,_,_=>none
noncomputable def Ni (H:AH) (k:Nat) (x:AV):Option (Nat×List AV):=match x with
 | .nsl=>some (0,[])
 | .sl b o n _ _=>(match H.get b with
  |some (.cells l _)=>(bp l o (n*k)).map (n,·)
  |some (.ro l)=>(bp l o (n*k)).map (n,·)
  |_=>none)
 | .esl b=>(match H.get b with
  |some (.cells _ _)=>some (0,[])
  |_=>none)
 | .str s=>some (s.length,s.map fun c=> .int .u8 (Int.ofNat c))
 |_=>none
noncomputable def qz (P:Program) (t u:TypeId) (s x:AV) (H:AH) (n:Nat):AR:=match P.underlying t,P.underlying u with
 |some (.slice e),some ud=>(match ud,aB P e,jS P e,cL P e with
  | .int _,_,_,_=>none
  |_,some k,some by',some z=>(match Ni H k x with
   |some (m,new)=>if z.cells.size=k/\0<by'/\0<k/\new.length=m*k/\new.all nJ=true then(match s with
    | .nsl=>(match m with
     |0=>some (.nsl,H,n)
     |_=>if m*by'<=140737488355328 then some (.sl n 0 m m k,H.set (some (.cells new true)) aa n,n+1)else none)
    | .sl b o sn c sk=>(match H.get b with
     |some (.cells l z')=>if sn+m<=c then(match eY l (o+sn*k) new with
      |some l'=>some (.sl b o (sn+m) c sk,H.set (some (.cells l' z')) aa b,n)
      |none=>none)
      else if(sn+m)*by'<=140737488355328 then(match bp l o (sn*k),sk with
       |some old,0=>some (.sl n 0 (sn+m) (sn+m) k,H.set (some (.cells (old++new) true)) aa n,n+1)
       |some old,_+1=>if sk=k then some (.sl n 0 (sn+m) (sn+m) k,(H.set none aa b).set (some (.cells (old++new) z')) aa n,n+1)else none
       |none,_=>none)
      else none
     |_=>none)
    |_=>none)else none
   |none=>none)
  |_,_,_,_=>none)
 |_,_=>none
noncomputable def EV:AV->Option Nat
 | .nsl=>some 0
 | .sl _ _ n _ _=>some n
 | .esl _=>some 0
 | .str s=>some s.length
 |_=>none
noncomputable def Dk (H:AH) (k q:Nat) (x:AV):Option (List AV):=match x with
 | .nsl=>some []
 | .sl b o _ _ _=>(match H.get b with
  |some (.cells l _)=>bp l o (q*k)
  |some (.ro l)=>bp l o (q*k)
  |_=>none)
 | .esl b=>(match H.get b,q with
  |some (.cells _ _),0=>some []
  |some (.ro _),0=>some []
  |_,_=>none)
 | .str s=>some ((s.take q).map fun c=> .int .u8 (Int.ofNat c))
 |_=>none
noncomputable def AJ (P:Program) (t:TypeId) (d x:AV) (H:AH) (n:Nat):AR:=match P.underlying t,EV x,EV d with
 |some (.slice e),some m,some dn=>(match aB P e with
  |some k=>(match Dk H k (min m dn) x with
   |some cells=>(match d with
    | .nsl=>some (.int .i64 (min m dn:Nat),H,n)
    | .esl b=>(match H.get b,cells with
     |some (.cells l z),[]=>some (.int .i64 (min m dn:Nat),H.set (some (.cells l z)) aa b,n)
     |_,_=>none)
    | .sl b o _ _ _=>(match H.get b with
     |some (.cells l z)=>(match eY l o cells,cells.all nJ with
      |some l',true=>some (.int .i64 (min m dn:Nat),H.set (some (.cells l' z)) aa b,n)
      |_,_=>none)
     |_=>none)
    |_=>none)
   |none=>none)
  |none=>none)
 |_,_,_=>none
noncomputable def yF (P:Program) (t:TypeId) (len:Nat) (parts:List (Nat×AV)):Option (List AV):=match P.underlying t with
 |some (.slice e)=>(match aB P e,cL P e with
  |some s,some z=>if len*s<=16777216/\z.cells.size=s then xf (fun i=>some (i*s,s)) (iB (ofV z).cells len) parts else none
  |_,_=>none)
 |_=>none
noncomputable def kX (k v:AV):List (AV×AV)->Option (Nat×AV)->List (AV×AV)
 |es,none=>es++ [(k,v)]
 | [],some _=> []
 |_::es,some (0,_)=>(k,v)::es
 |e::es,some (i+1,u)=>e::kX k v es (some (i,u))
noncomputable def kY (P:Program) (t:TypeId) (m k v:AV) (H:AH) (n:Nat):AR:=match m,dq P t with
 | .map b,some (_,kd,_)=>(match H.get b with
  |some (.map es)=>(match lH kd k es 0 with
   |some r=>some (cM,H.set (some (.map (kX k v es r))) aa b,n)
   |none=>none)
  |some (.mp es bs cl)=>(match lH kd k es 0 with
   |some none=>some (cM,H.set (some (.mp (kX k v es none) (bs++ [cl]) (cl+1))) aa b,n)
   |some (some y)=>some (cM,H.set (some (.mp (kX k v es (some y)) bs cl)) aa b,n)
   |none=>none)
  |_=>none)
 |_,_=>none
noncomputable def Dl (P:Program) (t:TypeId) (m k:AV) (H:AH) (n:Nat):AR:=match m,dq P t with
 | .map b,some (_,kd,_)=>(match H.get b with
  |some (.mp es bs cl)=>(match lH kd k es 0 with
   |some none=>some (.tup [],H.set (some (.mp es bs cl)) aa b,n)
   |some (some (i,_))=>some (.tup [],H.set (some (.mp (es.eraseIdx i) (bs.eraseIdx i) cl)) aa b,n)
   |none=>none)
  |_=>none)
 |_,_=>none
abbrev AC:=FuncId->List AV->AH->Nat->AR
noncomputable def Dm (P:Program) (t:TypeId) (x:AV) (H:AH) (n:Nat):AR:=match x with
 | .map b=>(match H.get b,yt P t with
  |some (.map es),true=>some (.ptr n 0,H.set (some (.iter b es.length [])) aa n,n+1)
  |some (.mp _ _ cl),true=>some (.ptr n 0,H.set (some (.iter b cl [])) aa n,n+1)
  |_,_=>none)
 |_=>none
noncomputable def EW (P:Program) (call:AC) (o:Op) (σ:AE) (H:AH) (n:Nat):AR:=
 match o with
 | .alloc e=>(match cL P e with
  |some z=>Nh (ofV z).cells H n
  |none=>none)
 | .box _ x=>(match okC (eev σ x)with
  |true=>Nh (eev σ x).cells H n
  |false=>none)
 | .buildSlice t len parts=>(match yF P t len (parts.toList.map fun x=>(x.1,eev σ x.2))with
  |some l=>some (.sl n 0 len len 0,H.set (some (.cells l true)) aa n,n+1)
  |none=>none)
 | .store t a x=>yE P t (eev σ a) (eev σ x) H n
 | .convert src dst x=>AI P src dst (eev σ x) H n
 | .makeSlice t l c=>uK P t (eev σ l) (eev σ c) H n
 | .makeMap _ none=>some (.map n,H.set (some (.map [])) aa n,n+1)
 | .mapUpdate t m k x=>kY P t (eev σ m) (eev σ k) (eev σ x) H n
 | .insert t m k x=>kY P t (eev σ m) (eev σ k) (eev σ x) H n
 | .range t x=>Dm P t (eev σ x) H n
 | .call c=>(match c.callee with
  | .value f=>(match eev σ f with
   | .fn g a cs=>call g (a++c.args.toList.map (eev σ)++cs) H n
   |_=>none)
  | .builtin .append=>(match c.argTypes.toList,c.args.toList.map (eev σ)with
   | [t,u],[s,x]=>qz P t u s x H n
   |_,_=>none)
  | .builtin .copy=>(match c.argTypes.toList,c.args.toList.map (eev σ)with
   | [t,_],[s,x]=>AJ P t s x H n
   |_,_=>none)
  | .builtin .delete=>(match c.argTypes.toList,c.args.toList.map (eev σ)with
   | [t,_],[s,x]=>Dl P t s x H n
   |_,_=>none)
  |_=>(match qy P (.call c) σ H with
   |some v=>some (v,H,n)
   |none=>none))
 |o=>(match qy P o σ H with
  |some v=>some (v,H,n)
  |none=>none)
noncomputable def xg:List AV->AV
 | [v]=>v
 |l=> .tup l
noncomputable def uL:List AV->Nat->AE->AE
 | [],_,σ=>σ
 |v::l,k,σ=>uL l (k+1) (σ.set (some v) eg k)
end Go.Proofs.YtflehenfikoniaaGreat
namespace Go.Proofs.YtflehenfikoniaaGreat
open Go
theorem tab.mixed:Tryz.prog.follows .mixedOrders=true:=by kernel_rfl
end Go.Proofs.YtflehenfikoniaaGreat
namespace Go.Proofs.YtflehenfikoniaaGreat
open Go Go.RowKit
def rM (r:Option (List UInt8)) (C:Value->Prop):Prop:=match r with
 |some l=>C (.string ⟨l.toArray⟩)
 |none=>False
section
variable (P:Program) (C:Value->Prop) (t:TypeId) (h:Hp) (K:KH) (b o n i:Nat) (x y v:Value)
theorem uM (d:Int):bnd none d=some d:=id rfl
end
section
variable (P:Program) (ops:Array Oper) (l:List Oper) (ρ:Env) (h:Hp) (N R:EH) (X:Nat->EH) (K:KH) (C:Value->Prop) (d:Option Nat) (op:Op) (ty:TypeId) (pos:String) (af:Array Edge)
def gs:List Oper->Nat->Option Nat
 | [],_=>none
 |o::_,0=>o.dst
 |_::l,n+1=>gs l n
end
attribute [go_sem↓] uk qj
attribute [go_sem] uM Jg GZ G0 Jh bO oD dB qo iv dL cG cI bytesOf
attribute [go_sem] jT found Jk chg
attribute [go_sem] Bool.not_not true_or or_true false_or or_false Nat.le_refl Nat.zero_le yj List.set_cons_zero if_true if_false Int.le_refl
attribute [go_sem] Bool.not_true Bool.not_false List.map_cons List.map_nil List.map_toArray List.append_toArray List.nil_append List.cons_append List.append_nil Option.map_some Option.map_none Option.isSome_some Option.isSome_none Option.isNone_some Option.isNone_none
attribute [go_sem] List.getElem?_toArray List.getElem?_cons_zero List.getElem?_cons_succ Option.bind_some Value.cells List.size_toArray List.length_cons List.length_nil List.all_cons List.all_nil Value.oneCell' Bool.and_true Bool.true_and true_and and_true eq_self List.setIfInBounds_toArray List.set_cons_zero List.set_cons_succ
attribute [go_sem] uo cH
theorem al {x:Int} (h1: -9223372036854775808<=x) (h2:x<=9223372036854775807):IntKind.i64.wrap x=x:=by
 rw[IntKind.wrap_i64];omega
theorem lu (z:List Value):∀n,(cI z n).length=n*z.length
 |0=>by simp[cI]
 |n+1=>by simp[cI,lu z n,Nat.succ_mul,Nat.add_comm]
attribute [go_sem] Nat.add_assoc
section
variable {α:Type} (v:Option α) (f n:Nat) (l r:PM α) (u:Option α)
theorem PM.get_nil:(PM.nil:PM α).get n=none:=id rfl
theorem PM.bk:(PM.node l u r).get (n+1)=if n%2=0 then l.get (n/2)else r.get (n/2):=by
 show(Nat.rec (l.get (n/2)) (fun _ _=>r.get (n/2)) (n%2):Option α)=_;rcases Nat.mod_two_eq_zero_or_one n with e|e<;>rw[e]<;>rfl
theorem PM.JB (t:PM α):PM.set v 0 t n= .nil:=id rfl
theorem PM.JC:PM.set v (f+1) .nil 0= .node .nil v .nil:=id rfl
theorem PM.AK:PM.set v (f+1) .nil (n+1)=if n%2=0 then .node (PM.set v f .nil (n/2)) none .nil else .node .nil none (PM.set v f .nil (n/2)):=by
 show(Nat.rec (.node (PM.set v f .nil (n/2)) none .nil) (fun _ _=> .node .nil none (PM.set v f .nil (n/2))) (n%2):PM α)=_;rcases Nat.mod_two_eq_zero_or_one n with e|e<;>rw[e]<;>rfl
theorem PM.Ho:PM.set v (f+1) (.node l u r) 0= .node l v r:=id rfl
theorem PM.xh:PM.set v (f+1) (.node l u r) (n+1)=if n%2=0 then .node (PM.set v f l (n/2)) u r else .node l u (PM.set v f r (n/2)):=by
 show(Nat.rec (.node (PM.set v f l (n/2)) u r) (fun _ _=> .node l u (PM.set v f r (n/2))) (n%2):PM α)=_;rcases Nat.mod_two_eq_zero_or_one n with e|e<;>rw[e]<;>rfl
end
theorem PM.aj {α:Type} {v:Option α}:∀(f:Nat) (t:PM α) (n m:Nat) (x:α),(PM.set v f t n).get m=some x->(m=n/\v=some x)∨(m≠n/\t.get m=some x)
 |0,t,n,m,x,h=>by rw[PM.JB,PM.get_nil]at h;cases h
 |f+1,.nil,0,m,x,h=>by
  rw[PM.JC]at h;cases m with
  |zero=>exact .inl ⟨rfl,h⟩
  |succ m=>rw[PM.bk]at h;split at h<;>cases h
 |f+1,.nil,n+1,m,x,h=>by
  rw[PM.AK]at h;cases m with
  |zero=>split at h<;>cases h
  |succ m=>
   split at h
   ·rw[PM.bk]at h;split at h
    ·rcases PM.aj f .nil (n/2) (m/2) x h with⟨h1,h2⟩|⟨_,h2⟩
     ·exact .inl ⟨by omega,h2⟩
     ·cases h2
    ·cases h
   ·rw[PM.bk]at h;split at h
    ·cases h
    ·rcases PM.aj f .nil (n/2) (m/2) x h with⟨h1,h2⟩|⟨_,h2⟩
     ·exact .inl ⟨by omega,h2⟩
     ·cases h2
 |f+1,.node l u r,0,m,x,h=>by
  rw[PM.Ho]at h;cases m with
  |zero=>exact .inl ⟨rfl,h⟩
  |succ m=>rw[PM.bk]at h;exact .inr ⟨by omega,by rw[PM.bk];exact h⟩
 |f+1,.node l u r,n+1,m,x,h=>by
  rw[PM.xh]at h;cases m with
  |zero=>split at h<;>exact .inr ⟨by omega,h⟩
  |succ m=>
   split at h
   ·rename_i hn;rw[PM.bk]at h;split at h
    ·rename_i hm;rcases PM.aj f l (n/2) (m/2) x h with⟨h1,h2⟩|⟨h1,h2⟩
     ·exact .inl ⟨by omega,h2⟩
     ·exact .inr ⟨by omega,by rw[PM.bk,if_pos hm];exact h2⟩
    ·rename_i hm;exact .inr ⟨by omega,by rw[PM.bk,if_neg hm];exact h⟩
   ·rename_i hn;rw[PM.bk]at h;split at h
    ·rename_i hm;exact .inr ⟨by omega,by rw[PM.bk,if_pos hm];exact h⟩
    ·rename_i hm;rcases PM.aj f r (n/2) (m/2) x h with⟨h1,h2⟩|⟨h1,h2⟩
     ·exact .inl ⟨by omega,h2⟩
     ·exact .inr ⟨by omega,by rw[PM.bk,if_neg hm];exact h2⟩
theorem PM.aC {α:Type} {v:Option α} {x:α}:∀(f:Nat) (t:PM α) (n m:Nat),n+1<2^f->m≠n->t.get m=some x->(PM.set v f t n).get m=some x
 |0,t,n,m,h,_,_=>by simp at h
 |f+1,.nil,n,m,h,hm,e=>by cases e
 |f+1,.node l u r,0,m,h,hm,e=>by
  cases m with
  |zero=>exact absurd rfl hm
  |succ m=>
   show(PM.node l v r).get (m+1)=some x;rw[PM.bk]at e⊢;exact e
 |f+1,.node l u r,n+1,m,h,hm,e=>by
  have hp:(PM.node l u r).set v (f+1) (n+1)=(Nat.rec (.node (PM.set v f l (n/2)) u r) (fun _ _=> .node l u (PM.set v f r (n/2))) (n%2):PM α):=rfl
  have h2:n/2+1<2^f:=by rw[Nat.pow_succ]at h;omega
  rcases Nat.mod_two_eq_zero_or_one n with q|q<;>rw[q]at hp
  ·have hp:(PM.node l u r).set v (f+1) (n+1)= .node (PM.set v f l (n/2)) u r:=hp;rw[hp];cases m with
   |zero=>exact e
   |succ m=>
    rw[PM.bk]at e⊢;split
    ·rename_i hq;rw[if_pos hq]at e;exact PM.aC f l (n/2) (m/2) h2 (by omega) e
    ·rename_i hq;rw[if_neg hq]at e;exact e
  ·have hp:(PM.node l u r).set v (f+1) (n+1)= .node l u (PM.set v f r (n/2)):=hp;rw[hp];cases m with
   |zero=>exact e
   |succ m=>
    rw[PM.bk]at e⊢;split
    ·rename_i hq;rw[if_pos hq]at e;exact e
    ·rename_i hq;rw[if_neg hq]at e;exact PM.aC f r (n/2) (m/2) h2 (by omega) e
theorem lI:∀(f n:Nat) (t:AE) (a:AV),ak (pathOf f n) t=a->a= .bad∨t.get n=some a
 |0,n,t,a,h=> .inl h.symm
 |f+1,0,t,a,h=>by
  cases t with
  |nil=>exact .inl h.symm
  |node l u r=>
   cases u with
   |none=>exact .inl h.symm
   |some v=>exact .inr (congrArg some h)
 |f+1,n+1,t,a,h=>by
  have hp:pathOf (f+1) (n+1)=(Nat.rec (.lo (pathOf f (n/2))) (fun _ _=> .hi (pathOf f (n/2))) (n%2):Pa):=rfl
  rw[hp]at h;cases t with
  |nil=>
   left;rcases Nat.mod_two_eq_zero_or_one n with e|e<;>(rw[e]at h;exact h.symm)
  |node l u r=>
   rw[PM.bk];rcases Nat.mod_two_eq_zero_or_one n with e|e
   ·rw[e]at h;rw[if_pos e];exact lI f (n/2) l a h
   ·rw[e]at h;rw[if_neg (by omega)];exact lI f (n/2) r a h
theorem nK {v:AV}:∀(f:Nat) (t:AE) (n m:Nat) (x:AV),(rJ v (pathOf f n) t).get m=some x->(m=n/\v=x)∨(m≠n/\t.get m=some x)
 |0,t,n,m,x,h=>by cases h
 |f+1,t,0,m,x,h=>by
  cases t with
  |nil=>
   cases m with
   |zero=>exact .inl ⟨rfl,by injection h⟩
   |succ m=>
    have h:(PM.node PM.nil (some v) PM.nil).get (m+1)=some x:=h;rw[PM.bk]at h;split at h<;>cases h
  |node l u r=>
   cases m with
   |zero=>exact .inl ⟨rfl,by injection h⟩
   |succ m=>
    have h:(PM.node l (some v) r).get (m+1)=some x:=h;rw[PM.bk]at h;exact .inr ⟨by omega,by rw[PM.bk];exact h⟩
 |f+1,t,n+1,m,x,h=>by
  have hp:pathOf (f+1) (n+1)=(Nat.rec (.lo (pathOf f (n/2))) (fun _ _=> .hi (pathOf f (n/2))) (n%2):Pa):=rfl
  rw[hp]at h;have ih:=nK (v:=v) f;rcases Nat.mod_two_eq_zero_or_one n with e|e<;>rw[e]at h
  ·have h:(PM.rec (.node (rJ v (pathOf f (n/2)) .nil) none .nil) (fun l u r _ _=> .node (rJ v (pathOf f (n/2)) l) u r) t:AE).get m=some x:=h;cases t with
   |nil=>
    have h:(PM.node (rJ v (pathOf f (n/2)) .nil) none .nil).get m=some x:=h;cases m with
    |zero=>cases h
    |succ m=>
     rw[PM.bk]at h;split at h
     ·rcases ih _ _ _ _ h with⟨h1,h2⟩|⟨_,h2⟩
      ·exact .inl ⟨by omega,h2⟩
      ·cases h2
     ·cases h
   |node l u r=>
    have h:(PM.node (rJ v (pathOf f (n/2)) l) u r).get m=some x:=h;cases m with
    |zero=>exact .inr ⟨by omega,h⟩
    |succ m=>
     rw[PM.bk]at h;split at h
     ·rename_i hm;rcases ih _ _ _ _ h with⟨h1,h2⟩|⟨h1,h2⟩
      ·exact .inl ⟨by omega,h2⟩
      ·exact .inr ⟨by omega,by rw[PM.bk,if_pos hm];exact h2⟩
     ·rename_i hm;exact .inr ⟨by omega,by rw[PM.bk,if_neg hm];exact h⟩
  ·have h:(PM.rec (.node .nil none (rJ v (pathOf f (n/2)) .nil)) (fun l u r _ _=> .node l u (rJ v (pathOf f (n/2)) r)) t:AE).get m=some x:=h;cases t with
   |nil=>
    have h:(PM.node .nil none (rJ v (pathOf f (n/2)) .nil)).get m=some x:=h;cases m with
    |zero=>cases h
    |succ m=>
     rw[PM.bk]at h;split at h
     ·cases h
     ·rcases ih _ _ _ _ h with⟨h1,h2⟩|⟨_,h2⟩
      ·exact .inl ⟨by omega,h2⟩
      ·cases h2
   |node l u r=>
    have h:(PM.node l u (rJ v (pathOf f (n/2)) r)).get m=some x:=h;cases m with
    |zero=>exact .inr ⟨by omega,h⟩
    |succ m=>
     rw[PM.bk]at h;split at h
     ·rename_i hm;exact .inr ⟨by omega,by rw[PM.bk,if_pos hm];exact h⟩
     ·rename_i hm;rcases ih _ _ _ _ h with⟨h1,h2⟩|⟨h1,h2⟩
      ·exact .inl ⟨by omega,h2⟩
      ·exact .inr ⟨by omega,by rw[PM.bk,if_neg hm];exact h2⟩
structure Pl where
 B:Nat
 s:Nat
 T:Nat
structure Ph where
 f:Nat->Option Pl
 z:Fz->Prop
 y:Fz->Prop
 s:Nat->Nat->Prop
instance:CoeFun Ph (fun _=>Nat->Option Pl):=⟨Ph.f⟩
abbrev Ph.no:Ph:=⟨fun _=>none,fun _=>False,fun _=>False,fun _ _=>False⟩
structure PLe (φ ψ:Ph):Prop where
 b:∀b p,φ b=some p->ψ b=some p
 z:∀q,φ.z q->ψ.z q
 y:∀q,ψ.y q->φ.y q
structure SLe (φ ψ:Ph):Prop where
 b:∀b p,φ b=some p->ψ b=some p
 z:∀q,φ.z q->ψ.z q
instance {φ ψ:Ph}:CoeFun (SLe φ ψ) (fun _=>∀b p,φ b=some p->ψ b=some p):=⟨SLe.b⟩
theorem PLe.s {φ ψ:Ph} (h:PLe φ ψ):SLe φ ψ:=⟨h.b,h.z⟩
instance {φ ψ:Ph}:CoeFun (PLe φ ψ) (fun _=>∀b p,φ b=some p->ψ b=some p):=⟨PLe.b⟩
theorem PLe.refl (φ:Ph):PLe φ φ:=⟨fun _ _ h=>h,fun _ h=>h,fun _ h=>h⟩
theorem PLe.trans {a b c:Ph} (h:PLe a b) (k:PLe b c):PLe a c:=⟨fun x p e=>k x p (h x p e),fun q e=>k.z q (h.z q e),fun q e=>h.y q (k.y q e)⟩
def dU (s:List Nat):ByteArray:=⟨(s.map UInt8.ofNat).toArray⟩
def Emp (x:Nat) (v:Value):Prop:=v= .slice none 0 0∨(x=4/\∃a,v= .slice (some a) 0 0)
mutual
def VR (φ:Ph):AV->Value->Prop
 | .int k n,v=>v= .int k n
 | .str s,v=>v= .string (dU s)/\∀x∈s,x<256
 | .bool b,v=>v= .bool b
 | .nil,v=>v= .pointer none
 | .ptr b o,v=>∃p,φ b=some p/\v= .pointer (some ⟨p.B,p.s+o,none⟩)
 | .nsl,v=>v= .slice none 0 0
 | .sl b o n c k,v=>∃p C,φ b=some p/\v= .slice (some ⟨p.B,p.s+o,none⟩) n C/\(k=0->C=c)/\(k≠0->c<=C/\o+C*k=p.T)
 | .esl b,v=>∃p x C,φ b=some p/\v= .slice (some ⟨p.B,x,none⟩) 0 C/\p.s<=x/\x<=p.s+p.T
 | .agg l,v=>∃cs,v= .agg cs/\VRs φ l cs.toList
 | .tup l,v=>∃cs,v= .tuple cs/\VRs φ l cs.toList
 | .fn f a c,v=>∃xs cs,v= .func (.func f) xs cs/\VRs φ a xs.toList/\VRs φ c cs.toList
 | .map b,v=>∃p,φ b=some p/\v= .map (some p.B)
 | .any u,v=>v=u
 | .bad,_=>True
 | .si k n,v=>v= .int k n
 | .sb b,v=>v= .bool b
 | .ss s,v=>v= .string (dU s)/\∀x∈s,x<256
 | .sy b o n c k,v=>∃p C,φ b=some p/\v= .slice (some ⟨p.B,p.s+o,none⟩) n C/\(k=0->C=c)/\(k≠0->c<=C/\o+C*k=p.T)
 | .rw b o n k x,v=>(n=0/\Emp x v)∨∃p a C,φ b=some p/\v= .slice (some ⟨p.B,a,none⟩) n C/\(n≠0->a=p.s+o)/\p.s<=a/\n<=C/\a+n*k<=p.s+p.T/\(x<2->a+C*k<=p.s+p.T)/\(x=1->C=n)
 | .fr n k l,v=>(n=0/\l=[]/\∃a C,v= .slice a 0 C/\(a=none->C=0))∨∃q o C,φ.z q/\v= .slice (some ⟨q.B,q.s+o,none⟩) n C/\n<=C/\bp q.L o (n*k)=some l
 | .fa l o,v=>∃q x,φ.z q/\v= .pointer (some ⟨q.B,q.s+x+o,none⟩)/\bp q.L x l.length=some l
def VRs (φ:Ph):List AV->List Value->Prop
 | [],vs=>vs=[]
 |a::l,vs=>∃v us,vs=v::us/\VR φ a v/\VRs φ l us
end
mutual
theorem VR.cO {φ ψ:Ph} (he:SLe φ ψ):∀(a:AV) (v:Value),VR φ a v->VR ψ a v
 | .int k n,v,h=>by simp only[VR]at h⊢;exact h
 | .str s,v,h=>by simp only[VR]at h⊢;exact h
 | .bool b,v,h=>by simp only[VR]at h⊢;exact h
 | .nil,v,h=>by simp only[VR]at h⊢;exact h
 | .ptr b o,v,h=>by
  simp only[VR]at h⊢;obtain⟨p,h1,h2⟩:=h;exact⟨p,he _ _ h1,h2⟩
 | .nsl,v,h=>by simp only[VR]at h⊢;exact h
 | .sl b o n c k,v,h=>by
  simp only[VR]at h⊢;obtain⟨p,C,h1,h2⟩:=h;exact⟨p,C,he _ _ h1,h2⟩
 | .esl b,v,h=>by
  simp only[VR]at h⊢;obtain⟨p,x,C,h1,h2⟩:=h;exact⟨p,x,C,he _ _ h1,h2⟩
 | .agg l,v,h=>by
  simp only[VR]at h⊢;obtain⟨cs,h1,h2⟩:=h;exact⟨cs,h1,VRs.cO he l _ h2⟩
 | .tup l,v,h=>by
  simp only[VR]at h⊢;obtain⟨cs,h1,h2⟩:=h;exact⟨cs,h1,VRs.cO he l _ h2⟩
 | .fn f a c,v,h=>by
  simp only[VR]at h⊢;obtain⟨xs,cs,h1,h2,h3⟩:=h;exact⟨xs,cs,h1,VRs.cO he a _ h2,VRs.cO he c _ h3⟩
 | .map b,v,h=>by
  simp only[VR]at h⊢;obtain⟨p,h1,h2⟩:=h;exact⟨p,he _ _ h1,h2⟩
 | .any u,v,h=>by simp only[VR]at h⊢;exact h
 | .bad,v,h=>by simp only[VR]
 | .si k n,v,h=>by simp only[VR]at h⊢;exact h
 | .sb b,v,h=>by simp only[VR]at h⊢;exact h
 | .ss s,v,h=>by simp only[VR]at h⊢;exact h
 | .sy b o n c k,v,h=>by
  simp only[VR]at h⊢;obtain⟨p,C,h1,h2⟩:=h;exact⟨p,C,he _ _ h1,h2⟩
 | .rw b o n k x,v,h=>by
  simp only[VR]at h⊢;rcases h with h|⟨p,a,C,h1,h2⟩
  ·exact .inl h
  ·exact .inr ⟨p,a,C,he _ _ h1,h2⟩
 | .fr n k l,v,h=>by
  simp only[VR]at h⊢;rcases h with h|⟨q,o,C,h1,h2⟩
  ·exact .inl h
  ·exact .inr ⟨q,o,C,he.z _ h1,h2⟩
 | .fa l o,v,h=>by
  simp only[VR]at h⊢;obtain⟨q,x,h1,h2⟩:=h;exact⟨q,x,he.z _ h1,h2⟩
theorem VRs.cO {φ ψ:Ph} (he:SLe φ ψ):∀(l:List AV) (vs:List Value),VRs φ l vs->VRs ψ l vs
 | [],vs,h=>by simp only[VRs]at h⊢;exact h
 |a::l,vs,h=>by
  simp only[VRs]at h⊢;obtain⟨v,us,h1,h2,h3⟩:=h;exact⟨v,us,h1,VR.cO he a v h2,VRs.cO he l us h3⟩
end
theorem VR.mono {φ ψ:Ph} (he:PLe φ ψ) (a:AV) (v:Value) (h:VR φ a v):VR ψ a v:=VR.cO he.s a v h
theorem VRs.mono {φ ψ:Ph} (he:PLe φ ψ) (l:List AV) (vs:List Value) (h:VRs φ l vs):VRs ψ l vs:=VRs.cO he.s l vs h
section
variable {φ:Ph}
theorem VRs.nil:VRs φ [] []:=by simp only[VRs]
theorem VRs.cons {a:AV} {v:Value} {l:List AV} {vs:List Value} (h:VR φ a v) (k:VRs φ l vs):VRs φ (a::l) (v::vs):=by
 (try simp only[VRs]);exact⟨v,vs,rfl,h,k⟩
theorem VRs.aM {vs:List Value} (h:VRs φ [] vs):vs=[]:=by simpa only[VRs]using h
theorem VRs.cons_inv {a:AV} {l:List AV} {vs:List Value} (h:VRs φ (a::l) vs):∃v us,vs=v::us/\VR φ a v/\VRs φ l us:=by simpa only[VRs]using h
theorem VRs.length:∀{l:List AV} {vs:List Value},VRs φ l vs->l.length=vs.length
 | [],vs,h=>by rw[h.aM];rfl
 |a::l,vs,h=>by
  obtain⟨v,us,rfl,_,h2⟩:=h.cons_inv;simp[h2.length]
theorem VRs.append:∀{l m:List AV} {vs us:List Value},VRs φ l vs->VRs φ m us->VRs φ (l++m) (vs++us)
 | [],m,vs,us,h,k=>by rw[h.aM];exact k
 |a::l,m,vs,us,h,k=>by
  obtain⟨v,ws,rfl,h1,h2⟩:=h.cons_inv;exact .cons h1 (h2.append k)
theorem VRs.at:∀{l:List AV} {vs:List Value},VRs φ l vs->∀{i:Nat} {a:AV},l[i]?=some a->∃v,vs[i]?=some v/\VR φ a v
 | [],vs,h,i,a,e=>by simp at e
 |b::l,vs,h,0,a,e=>by
  obtain⟨v,us,rfl,h1,_⟩:=h.cons_inv;simp only[List.getElem?_cons_zero,Option.some.injEq]at e;subst e;exact⟨v,rfl,h1⟩
 |b::l,vs,h,i+1,a,e=>by
  obtain⟨v,us,rfl,_,h2⟩:=h.cons_inv;simp only[List.getElem?_cons_succ]at e;simpa using h2.at e
theorem VRs.take:∀{l:List AV} {vs:List Value},VRs φ l vs->∀(n:Nat),VRs φ (l.take n) (vs.take n)
 |_,_,_,0=>by simp[VRs]
 | [],vs,h,n+1=>by rw[h.aM];simp[VRs]
 |a::l,vs,h,n+1=>by
  obtain⟨v,us,rfl,h1,h2⟩:=h.cons_inv;simpa using VRs.cons h1 (h2.take n)
theorem VRs.drop:∀{l:List AV} {vs:List Value},VRs φ l vs->∀(n:Nat),VRs φ (l.drop n) (vs.drop n)
 |_,_,h,0=>by simpa using h
 | [],vs,h,n+1=>by rw[h.aM];simp[VRs]
 |a::l,vs,h,n+1=>by
  obtain⟨v,us,rfl,h1,h2⟩:=h.cons_inv;simpa using h2.drop n
theorem VRs.map {β:Type} {f:β->AV} {g:β->Value} (h:∀x,VR φ (f x) (g x)):∀l:List β,VRs φ (l.map f) (l.map g)
 | []=> .nil
 |x::l=> .cons (h x) (VRs.map h l)
theorem VR.bV {k:IntKind} {n:Int} {v:Value} (h:VR φ (.int k n) v):v= .int k n:=by simpa only[VR]using h
theorem VR.bQ {b:Bool} {v:Value} (h:VR φ (.bool b) v):v= .bool b:=by simpa only[VR]using h
theorem VR.aM {v:Value} (h:VR φ .nil v):v= .pointer none:=by simpa only[VR]using h
theorem VR.cP {v:Value} (h:VR φ .nsl v):v= .slice none 0 0:=by simpa only[VR]using h
theorem VR.cr {s:List Nat} {v:Value} (h:VR φ (.str s) v):v= .string (dU s)/\∀x∈s,x<256:=by simpa only[VR]using h
theorem VR.ct {b o:Nat} {v:Value} (h:VR φ (.ptr b o) v):∃p,φ b=some p/\v= .pointer (some ⟨p.B,p.s+o,none⟩):=by simpa only[VR]using h
theorem VR.eo {b o n c k:Nat} {v:Value} (h:VR φ (.sl b o n c k) v):∃p C,φ b=some p/\v= .slice (some ⟨p.B,p.s+o,none⟩) n C/\(k=0->C=c)/\(k≠0->c<=C/\o+C*k=p.T):=by simpa only[VR]using h
theorem VR.jU {b:Nat} {v:Value} (h:VR φ (.esl b) v):∃p x C,φ b=some p/\v= .slice (some ⟨p.B,x,none⟩) 0 C/\p.s<=x/\x<=p.s+p.T:=by simpa only[VR]using h
theorem VR.dC {l:List AV} {v:Value} (h:VR φ (.agg l) v):∃cs,v= .agg cs/\VRs φ l cs.toList:=by simpa only[VR]using h
theorem VR.eQ {l:List AV} {v:Value} (h:VR φ (.tup l) v):∃cs,v= .tuple cs/\VRs φ l cs.toList:=by simpa only[VR]using h
theorem VR.mF {f:Nat} {a c:List AV} {v:Value} (h:VR φ (.fn f a c) v):∃xs cs,v= .func (.func f) xs cs/\VRs φ a xs.toList/\VRs φ c cs.toList:=by simpa only[VR]using h
theorem VR.kZ {b:Nat} {v:Value} (h:VR φ (.map b) v):∃p,φ b=some p/\v= .map (some p.B):=by simpa only[VR]using h
theorem VR.tN {u v:Value} (h:VR φ (.any u) v):v=u:=by simpa only[VR]using h
theorem VR.fy {k:IntKind} {n:Int} {v:Value} (h:VR φ (.si k n) v):v= .int k n:=by simpa only[VR]using h
theorem VR.jE {b:Bool} {v:Value} (h:VR φ (.sb b) v):v= .bool b:=by simpa only[VR]using h
theorem VR.rN {s:List Nat} {v:Value} (h:VR φ (.ss s) v):v= .string (dU s)/\∀x∈s,x<256:=by simpa only[VR]using h
theorem VR.yG {b o n c k:Nat} {v:Value} (h:VR φ (.sy b o n c k) v):∃p C,φ b=some p/\v= .slice (some ⟨p.B,p.s+o,none⟩) n C/\(k=0->C=c)/\(k≠0->c<=C/\o+C*k=p.T):=by simpa only[VR]using h
theorem VR.gz {b o n k x:Nat} {v:Value} (h:VR φ (.rw b o n k x) v):(n=0/\Emp x v)∨∃p a C,φ b=some p/\v= .slice (some ⟨p.B,a,none⟩) n C/\(n≠0->a=p.s+o)/\p.s<=a/\n<=C/\a+n*k<=p.s+p.T/\(x<2->a+C*k<=p.s+p.T)/\(x=1->C=n):=by simpa only[VR]using h
theorem VR.rwe {b o k x n:Nat} {v:Value} (hn:n=0) (h:Emp x v):VR φ (.rw b o n k x) v:=by subst hn;simp only[VR];exact .inl ⟨trivial,h⟩
theorem VR.rwn {b o k x:Nat}:VR φ (.rw b o 0 k x) (.slice none 0 0):= .rwe rfl (.inl rfl)
theorem VR.rO {n k:Nat} {l:List AV} {v:Value} (h:VR φ (.fr n k l) v):(n=0/\l=[]/\∃a C,v= .slice a 0 C/\(a=none->C=0))∨∃q o C,φ.z q/\v= .slice (some ⟨q.B,q.s+o,none⟩) n C/\n<=C/\bp q.L o (n*k)=some l:=by simpa only[VR]using h
theorem VR.yH {l:List AV} {o:Nat} {v:Value} (h:VR φ (.fa l o) v):∃q x,φ.z q/\v= .pointer (some ⟨q.B,q.s+x+o,none⟩)/\bp q.L x l.length=some l:=by simpa only[VR]using h
theorem VR.fre {k C:Nat} {a:Option Addr} (h:a=none->C=0):VR φ (.fr 0 k []) (.slice a 0 C):=by simp only[VR];exact .inl ⟨trivial,trivial,a,C,rfl,h⟩
theorem VR.fr {n k o C:Nat} {l:List AV} {q:Fz} (hq:φ.z q) (hn:n<=C) (hl:bp q.L o (n*k)=some l):VR φ (.fr n k l) (.slice (some ⟨q.B,q.s+o,none⟩) n C):=by simp only[VR];exact .inr ⟨q,o,C,hq,rfl,hn,hl⟩
theorem VR.fa {x o:Nat} {l:List AV} {q:Fz} (hq:φ.z q) (hl:bp q.L x l.length=some l):VR φ (.fa l o) (.pointer (some ⟨q.B,q.s+x+o,none⟩)):=by simp only[VR];exact⟨q,x,hq,rfl,hl⟩
theorem VR.JD {n k:Nat} {l:List AV} {v:Value} (h:VR φ (.fr n k l) v):∃a C,v= .slice a n C:=by
 rcases h.rO with⟨rfl,_,a,C,h,_⟩|⟨q,o,C,_,h,_⟩<;>exact⟨_,_,h⟩
def nL:AV->Bool
 | .int _ _=>true
 | .str _=>true
 | .bool _=>true
 | .si _ _=>true
 | .sb _=>true
 | .ss _=>true
 | .nil=>true
 | .nsl=>true
 | .any _=>true
 | .bad=>true
 | .fr _ _ _=>true
 | .fa _ _=>true
 |_=>false
theorem k7 {ψ:Ph} (hz:∀q,φ.z q->ψ.z q) {a:AV} {v:Value} (h:nL a=true) (hv:VR φ a v):VR ψ a v:=by
 cases a<;>first|(cases h;done)|skip
 case fr=>
  simp only[VR]at hv⊢;rcases hv with h|⟨q,o,C,h1,h2⟩
  ·exact .inl h
  ·exact .inr ⟨q,o,C,hz _ h1,h2⟩
 case fa=>
  simp only[VR]at hv⊢;obtain⟨q,o,h1,h2⟩:=hv;exact⟨q,o,hz _ h1,h2⟩
 all_goals(simp only[VR]at hv⊢;try exact hv)
theorem Emp.nil {x:Nat} {v:Value} (h:Emp x v) (hx:x≠4):v= .slice none 0 0:=h.elim id fun h=>absurd h.1 hx
theorem Emp.is {x:Nat} {v:Value} (h:Emp x v):∃a,v= .slice a 0 0:=h.elim (fun h=>⟨_,h⟩) fun⟨_,a,h⟩=>⟨_,h⟩
theorem VR.rwx {b o n k a C x:Nat} {p:Pl} (h:φ b=some p) (h1:n≠0->a=p.s+o) (h2:p.s<=a) (h3:n<=C) (h4:a+n*k<=p.s+p.T) (h5:x<2->a+C*k<=p.s+p.T) (h6:x=1->C=n):VR φ (.rw b o n k x) (.slice (some ⟨p.B,a,none⟩) n C):=by simp only[VR];exact .inr ⟨p,a,C,h,rfl,h1,h2,h3,h4,h5,h6⟩
theorem VR.rw {b o n k a C:Nat} {p:Pl} (h:φ b=some p) (h1:n≠0->a=p.s+o) (h2:p.s<=a) (h3:n<=C) (h4:a+C*k<=p.s+p.T):VR φ (.rw b o n k 0) (.slice (some ⟨p.B,a,none⟩) n C):= .rwx h h1 h2 h3 (Nat.le_trans (Nat.add_le_add_left (Nat.mul_le_mul_right k h3) a) h4) (fun _=>h4) (fun q=>by cases q)
theorem VR.si (k:IntKind) (n:Int):VR φ (.si k n) (.int k n):=by simp only[VR]
theorem VR.sb (b:Bool):VR φ (.sb b) (.bool b):=by simp only[VR]
theorem VR.ss {s:List Nat} (h:∀x∈s,x<256):VR φ (.ss s) (.string (dU s)):=by simp only[VR];exact⟨trivial,h⟩
theorem VR.sy {b o n c k C:Nat} {p:Pl} (h:φ b=some p) (h0:k=0->C=c) (h1:k≠0->c<=C/\o+C*k=p.T):VR φ (.sy b o n c k) (.slice (some ⟨p.B,p.s+o,none⟩) n C):=by simp only[VR];exact⟨p,C,h,rfl,h0,h1⟩
theorem VR.int (k:IntKind) (n:Int):VR φ (.int k n) (.int k n):=by simp only[VR]
theorem VR.bool (b:Bool):VR φ (.bool b) (.bool b):=by simp only[VR]
theorem VR.nil:VR φ .nil (.pointer none):=by simp only[VR]
theorem VR.nsl:VR φ .nsl (.slice none 0 0):=by simp only[VR]
theorem VR.str {s:List Nat} (h:∀x∈s,x<256):VR φ (.str s) (.string (dU s)):=by simp only[VR];exact⟨trivial,h⟩
theorem VR.ptr {b o:Nat} {p:Pl} (h:φ b=some p):VR φ (.ptr b o) (.pointer (some ⟨p.B,p.s+o,none⟩)):=by simp only[VR];exact⟨p,h,rfl⟩
theorem VR.sl {b o n c k C:Nat} {p:Pl} (h:φ b=some p) (h0:k=0->C=c) (h1:k≠0->c<=C/\o+C*k=p.T):VR φ (.sl b o n c k) (.slice (some ⟨p.B,p.s+o,none⟩) n C):=by simp only[VR];exact⟨p,C,h,rfl,h0,h1⟩
theorem VR.esl {b x C:Nat} {p:Pl} (h:φ b=some p) (h1:p.s<=x) (h2:x<=p.s+p.T):VR φ (.esl b) (.slice (some ⟨p.B,x,none⟩) 0 C):=by simp only[VR];exact⟨p,x,C,h,rfl,h1,h2⟩
theorem VR.agg {l:List AV} {cs:Array Value} (h:VRs φ l cs.toList):VR φ (.agg l) (.agg cs):=by simp only[VR];exact⟨cs,rfl,h⟩
theorem VR.tup {l:List AV} {cs:Array Value} (h:VRs φ l cs.toList):VR φ (.tup l) (.tuple cs):=by simp only[VR];exact⟨cs,rfl,h⟩
theorem VR.fn {f:Nat} {a c:List AV} {xs cs:Array Value} (h:VRs φ a xs.toList) (k:VRs φ c cs.toList):VR φ (.fn f a c) (.func (.func f) xs cs):=by simp only[VR];exact⟨xs,cs,rfl,h,k⟩
theorem VR.map {b:Nat} {p:Pl} (h:φ b=some p):VR φ (.map b) (.map (some p.B)):=by simp only[VR];exact⟨p,h,rfl⟩
theorem VR.any (v:Value):VR φ (.any v) v:=by simp only[VR]
theorem VR.bad (v:Value):VR φ .bad v:=by simp only[VR]
theorem VR.undef:VR φ cM Go.undef:=VR.tup (cs:= #[]) VRs.nil
theorem xi (s:ByteArray):dU (s.data.toList.map UInt8.toNat)=s:=by
 obtain⟨⟨l⟩⟩:=s;simp[dU,List.map_map,Function.comp_def]
theorem pJ (v:Value):VR φ (AF v) v:=by
 unfold AF;split
 ·exact .int _ _
 ·rename_i s
  have:=VR.str (φ:=φ) (s:=s.data.toList.map UInt8.toNat) (by
   intro x hx;simp only[List.mem_map]at hx;obtain⟨y,_,rfl⟩:=hx;exact y.toNat_lt)
  rwa [xi]at this
 ·exact .bool _
 ·exact .nil
 ·exact .nsl
 ·exact .any _
theorem oF (v:Value):VR φ (ofV v) v:=by
 unfold ofV;split
 ·rename_i cs;refine .agg ?_;have:=VRs.map (φ:=φ) (f:=AF) (g:=id) pJ cs.toList;simpa using this
 ·rename_i cs;refine .tup ?_;have:=VRs.map (φ:=φ) (f:=AF) (g:=id) pJ cs.toList;simpa using this
 ·exact pJ _
theorem VR.cells {a:AV} {v:Value} (h:VR φ a v) (hc:okC a=true):VRs φ a.cells v.cells.toList:=by
 cases a<;>simp only[AV.cells]
 case agg l=>obtain⟨cs,rfl,h1⟩:=h.dC;exact h1
 case bad=>cases hc
 case any u=>have:=h.tN;subst this;simp only[okC]at hc;cases v<;>first|exact .cons h .nil|cases hc
 case si=>have:=h.fy;subst this;exact .cons h .nil
 case sb=>have:=h.jE;subst this;exact .cons h .nil
 case ss=>obtain⟨rfl,_⟩:=h.rN;exact .cons h .nil
 case sy=>obtain⟨p,C,_,rfl,_⟩:=h.yG;exact .cons h .nil
 case rw=>
  rcases h.gz with⟨_,he⟩|⟨p,y,C,_,rfl,_⟩
  ·obtain⟨a,rfl⟩:=he.is;exact .cons h .nil
  ·exact .cons h .nil
 case fr=>obtain⟨a,C,rfl⟩:=h.JD;exact .cons h .nil
 case fa=>obtain⟨q,o,_,rfl,_⟩:=h.yH;exact .cons h .nil
 case int=>have:=h.bV;subst this;exact .cons h .nil
 case str=>obtain⟨rfl,_⟩:=h.cr;exact .cons h .nil
 case bool=>have:=h.bQ;subst this;exact .cons h .nil
 case nil=>have:=h.aM;subst this;exact .cons h .nil
 case ptr=>obtain⟨p,_,rfl⟩:=h.ct;exact .cons h .nil
 case nsl=>have:=h.cP;subst this;exact .cons h .nil
 case sl=>obtain⟨p,C,_,rfl,_⟩:=h.eo;exact .cons h .nil
 case esl=>obtain⟨p,x,C,_,rfl,_⟩:=h.jU;exact .cons h .nil
 case tup=>obtain⟨p,rfl,_⟩:=h.eQ;exact .cons h .nil
 case fn=>obtain⟨p,q,rfl,_⟩:=h.mF;exact .cons h .nil
 case map=>obtain⟨p,_,rfl⟩:=h.kZ;exact .cons h .nil
end
theorem fA {α:Type}:∀(l:List α) (i:Nat),nth l i=l[i]?
 | [],_=>by simp[nth]
 |_::_,0=>by simp[nth]
 |_::l,i+1=>by simp[nth,fA l i]
theorem bu {α:Type} {l r:List α} {o n:Nat} (h:bp l o n=some r):o+n<=l.length/\r=(l.drop o).take n:=by
 unfold bp at h;split at h
 ·rename_i e;injection h with h;exact⟨Nat.le_of_ble_eq_true e,h.symm⟩
 ·cases h
theorem gZ:∀(l:List AV) (o:Nat) (xs r:List AV),eY l o xs=some r->r.length=l.length/\o+xs.length<=l.length/\∀i:Nat,r[i]?=if o<=i/\i<o+xs.length then xs[i-o]? else l[i]?
 |l,0,[],r,h=>by
  have:r=l:=by cases l<;>(unfold eY at h;injection h with h;exact h.symm)
  subst this;refine⟨rfl,by simp,fun i=>?_⟩;rw[if_neg (by simp only[List.length_nil];omega)]
 | [],0,x::xs,r,h=>by unfold eY at h;cases h
 | [],o+1,xs,r,h=>by cases xs<;>(unfold eY at h;cases h)
 |y::l,0,x::xs,r,h=>by
  simp only[eY,Option.map_eq_some_iff]at h;obtain⟨t,ht,rfl⟩:=h;obtain⟨h1,h2,h3⟩:=gZ l 0 xs t ht;refine⟨by simp[h1],by simp only[List.length_cons];omega,fun i=>?_⟩;cases i with
  |zero=>simp
  |succ i=>
   simp only[List.getElem?_cons_succ,h3,List.length_cons];by_cases hi:i<xs.length
   ·rw[if_pos (by omega),if_pos (by omega)];simp
   ·rw[if_neg (by omega),if_neg (by omega)]
 |y::l,o+1,xs,r,h=>by
  have h:(eY l o xs).map (y::·)=some r:=by cases xs<;>(unfold eY at h;exact h)
  simp only[Option.map_eq_some_iff]at h;obtain⟨t,ht,rfl⟩:=h;obtain⟨h1,h2,h3⟩:=gZ l o xs t ht;refine⟨by simp[h1],by simp only[List.length_cons];omega,fun i=>?_⟩;cases i with
  |zero=>simp
  |succ i=>
   simp only[List.getElem?_cons_succ,h3];by_cases hi:o<=i/\i<o+xs.length
   ·rw[if_pos hi,if_pos (by omega)];congr 1;omega
   ·rw[if_neg hi,if_neg (by omega)]
theorem eI:∀(vs:List Value) (c:Array Value) (o:Nat),(dL c o vs).size=c.size
 | [],_,_=>rfl
 |v::vs,c,o=>by simp[dL,eI vs]
theorem mG:∀(vs:List Value) (c:Array Value) (o i:Nat),(dL c o vs)[i]?=if o<=i/\i<o+vs.length/\i<c.size then vs[i-o]? else c[i]?
 | [],c,o,i=>by rw[if_neg (by simp;omega)];rfl
 |v::vs,c,o,i=>by
  simp only[dL,mG vs,Array.size_setIfInBounds,List.length_cons];by_cases h:i=o
  ·subst h;rw[if_neg (by omega)];by_cases hi:i<c.size
   ·rw[if_pos (by omega)];simp[hi]
   ·rw[if_neg (by omega)];simp[hi]
  ·by_cases h2:o+1<=i/\i<o+1+vs.length/\i<c.size
   ·rw[if_pos h2,if_pos (by omega)];obtain⟨d,rfl⟩:∃d,i=o+1+d:=⟨i-(o+1),by omega⟩;rw[show o+1+d-(o+1)=d from by omega,show o+1+d-o=d+1 from by omega];simp
   ·rw[if_neg h2,if_neg (by omega)];simp[Array.getElem?_setIfInBounds,Ne.symm h]
def CR (φ:Ph) (c:Array Value) (s:Nat) (l:List AV):Prop:=∀i a,l[i]?=some a->∃v,c[s+i]?=some v/\VR φ a v
theorem CR.cO {φ ψ:Ph} (he:SLe φ ψ) {c:Array Value} {s:Nat} {l:List AV} (h:CR φ c s l):CR ψ c s l:=fun i a e=>
 let⟨v,h1,h2⟩:=h i a e
 ⟨v,h1,VR.cO he _ _ h2⟩
theorem CR.mono {φ ψ:Ph} (he:PLe φ ψ) {c:Array Value} {s:Nat} {l:List AV} (h:CR φ c s l):CR ψ c s l:=h.cO he.s
theorem CR.cG {φ:Ph} {c:Array Value} {s:Nat} {l:List AV} (h:CR φ c s l):∀(n o:Nat),o+n<=l.length->∃vs,cG c (s+o) n=some vs/\VRs φ ((l.drop o).take n) vs
 |0,o,_=>⟨[],rfl,by simpa using VRs.nil⟩
 |n+1,o,hle=>by
  obtain⟨v,h1,h2⟩:=h o (l[o]'(by omega)) (List.getElem?_eq_getElem (by omega));obtain⟨vs,h3,h4⟩:=CR.cG h n (o+1) (by omega);refine⟨v::vs,?_,?_⟩
  ·simp only[Go.Proofs.YtflehenfikoniaaGreat.cG,h1];rw[show s+o+1=s+(o+1) from by omega,h3]
  ·rw[List.drop_eq_getElem_cons (by omega),List.take_succ_cons];exact .cons h2 h4
theorem CR.sub {φ:Ph} {c:Array Value} {s:Nat} {l r:List AV} {o n:Nat} (h:CR φ c s l) (e:bp l o n=some r):∃vs,Go.Proofs.YtflehenfikoniaaGreat.cG c (s+o) n=some vs/\VRs φ r vs:=by
 obtain⟨h1,rfl⟩:=bu e;exact h.cG n o h1
theorem CR.nth {φ:Ph} {c:Array Value} {s:Nat} {l:List AV} {o:Nat} {a:AV} (h:CR φ c s l) (e:Go.Proofs.YtflehenfikoniaaGreat.nth l o=some a):∃v,c[s+o]?=some v/\VR φ a v:=h o a (by rw[<-fA];exact e)
theorem CR.set {φ:Ph} {c:Array Value} {s o:Nat} {l r xs:List AV} {vs:List Value} (h:CR φ c s l) (e:eY l o xs=some r) (hv:VRs φ xs vs) (hs:s+l.length<=c.size):CR φ (dL c (s+o) vs) s r:=by
 obtain⟨h1,h2,h3⟩:=gZ l o xs r e;intro i a hi
 have hlt:i<l.length:=by
  have:=(List.getElem?_eq_some_iff.1 hi).1;omega
 rw[h3]at hi;rw[mG,<-hv.length];split at hi
 ·rename_i hc;rw[if_pos (by omega),show s+i-(s+o)=i-o from by omega];exact hv.at hi
 ·rename_i hc;rw[if_neg (by omega)];exact h i a hi
theorem CR.of {φ:Ph} {l:List AV} {vs:List Value} (h:VRs φ l vs) (r:List Value):CR φ (vs++r).toArray 0 l:=fun i a e=>by
 obtain⟨v,h1,h2⟩:=h.at e;refine⟨v,?_,h2⟩;have:=(List.getElem?_eq_some_iff.1 h1).1;simp[List.getElem?_append_left this,h1]
theorem CR.of' {φ:Ph} {l:List AV} {c:Array Value} (h:VRs φ l c.toList):CR φ c 0 l:=fun i a e=>by
 obtain⟨v,h1,h2⟩:=h.at e;exact⟨v,by simpa using h1,h2⟩
def MR (φ:Ph):List (AV×AV)->List MapEntry->Prop
 | [],ms=>ms=[]
 |e::es,ms=>∃m us,ms=m::us/\VR φ e.1 m.key/\VR φ e.2 m.val/\MR φ es us
theorem MR.cO {φ ψ:Ph} (he:SLe φ ψ):∀(es:List (AV×AV)) (ms:List MapEntry),MR φ es ms->MR ψ es ms
 | [],ms,h=>h
 |e::es,ms,⟨m,us,h1,h2,h3,h4⟩=>⟨m,us,h1,VR.cO he _ _ h2,VR.cO he _ _ h3,MR.cO he es us h4⟩
theorem MR.length {φ:Ph}:∀{es:List (AV×AV)} {ms:List MapEntry},MR φ es ms->es.length=ms.length
 | [],ms,h=>by rw[show ms=[] from h];rfl
 |e::es,ms,⟨m,us,h1,_,_,h4⟩=>by subst h1;simp[MR.length h4]
def uN (ms:List MapEntry) (cl:Nat):Prop:=cl=ms.length/\∀(i:Nat) (e:MapEntry),ms[i]?=some e->e.born=i
theorem uN.nil:uN [] 0:=⟨rfl,fun i e h=>by simp at h⟩
theorem uN.push {ms:List MapEntry} {cl:Nat} (h:uN ms cl) {m:MapEntry} (hm:m.born=cl):uN (ms++ [m]) (cl+1):=by
 refine⟨by simp[h.1],fun i e hi=>?_⟩;rcases Nat.lt_trichotomy i ms.length with hl|rfl|hl
 ·rw[List.getElem?_append_left hl]at hi;exact h.2 i e hi
 ·rw[List.getElem?_append_right (Nat.le_refl _)]at hi;simp at hi;subst hi;exact hm.trans h.1
 ·rw[List.getElem?_eq_none (by simp;omega)]at hi;cases hi
def OR (φ:Ph) (p:Pl):AO->Obj->Prop
 | .cells l z,ob=>∃c t fz,ob= .cells c t fz/\l.length<=p.T/\p.s+p.T<=c.size/\qk fz p.s p.T/\(z=true->fz=(0,0))/\CR φ c p.s l
 | .map es,ob=>∃ms cl,ob= .map ms cl/\MR φ es ms.toList/\uN ms.toList cl
 | .mp es bs cl,ob=>∃ms:Array MapEntry,ob= .map ms cl/\MR φ es ms.toList/\(ms.toList.map fun x=>x.born)=bs
 | .iter b m seen,ob=>p.s=0/\∃q,φ b=some q/\ob= .mapIter (some q.B) m seen.toArray m
 | .ro l,ob=>∃c t fz,ob= .cells c t fz/\l.length<=p.T/\p.s+p.T<=c.size/\CR φ c p.s l
 | .sep _,_=>False
def AO.Hq:AO->Option HP
 | .sep Q=>some Q
 |_=>none
def AO.own:AO->Bool
 | .ro _=>false
 |_=>true
theorem OR.cO {φ ψ:Ph} (he:SLe φ ψ) {p:Pl} {o:AO} {ob:Obj} (h:OR φ p o ob):OR ψ p o ob:=by
 cases o with
 |cells l z=>obtain⟨c,t,fz,h1,h2,h3,h4,h5,h6⟩:=h;exact⟨c,t,fz,h1,h2,h3,h4,h5,h6.cO he⟩
 |map es=>obtain⟨ms,cl,h1,h2,h3⟩:=h;exact⟨ms,cl,h1,MR.cO he _ _ h2,h3⟩
 |mp es bs cl=>obtain⟨ms,h1,h2,h3⟩:=h;exact⟨ms,h1,MR.cO he _ _ h2,h3⟩
 |iter b m seen=>obtain⟨h0,q,h1,h2⟩:=h;exact⟨h0,q,he _ _ h1,h2⟩
 |ro l=>obtain⟨c,t,fz,h1,h2,h3,h4⟩:=h;exact⟨c,t,fz,h1,h2,h3,h4.cO he⟩
 |sep Q=>exact h.elim
theorem OR.mono {φ ψ:Ph} (he:PLe φ ψ) {p:Pl} {o:AO} {ob:Obj} (h:OR φ p o ob):OR ψ p o ob:=h.cO he.s
def AO.under:AO->Obj->Option Obj
 | .ro _,ob=>some ob
 |_,_=>none
theorem AO.bA {o:AO} (h:o.own=true) (ob:Obj):o.under ob=none:=by cases o<;>first|rfl|cases h
def AO.void:AO->Bool
 | .cells [] _=>true
 | .ro []=>true
 |_=>false
def AO.free:AO->Bool
 | .sep _=>true
 |o=>o.void
theorem AO.EX {o:AO} (h:o.void=true):o.free=true:=by cases o<;>first|exact h|rfl
def FzR (φ:Ph) (h:Hp) (q:Fz):Prop:=(q.B<h.n/\q.L.all nL=true)/\∃c t fz,h.f q.B=some (.cells c t fz)/\q.s+q.L.length<=c.size/\CR φ c q.s q.L
theorem FzR.mono {φ ψ:Ph} (he:∀q,φ.z q->ψ.z q) {h:Hp} {q:Fz} (k:FzR φ h q):FzR ψ h q:=by
 obtain⟨h0,c,t,fz,h1,h2,h3⟩:=k;refine⟨h0,c,t,fz,h1,h2,fun i a hi=>?_⟩;obtain⟨v,h4,h5⟩:=h3 i a hi;exact⟨v,h4,k7 he (List.all_eq_true.1 h0.2 a (List.mem_of_getElem? hi)) h5⟩
theorem FzR.grow {φ:Ph} {h g:Hp} {q:Fz} (k:FzR φ h q) (hn:h.n<=g.n) (hf:g.f q.B=h.f q.B):FzR φ g q:=by
 obtain⟨h0,c,t,fz,h1,h2⟩:=k;exact⟨⟨Nat.lt_of_lt_of_le h0.1 hn,h0.2⟩,c,t,fz,hf.trans h1,h2⟩
structure HR (φ:Ph) (H:AH) (n:Nat) (h0 h:Hp):Prop where
 dom:∀b p,φ b=some p->b<n/\p.B<h.n
 live:∀b o,H.get b=some o->(φ b=none/\o.free=true)∨∃p ob,φ b=some p/\h0.f p.B=o.under ob/\h.f p.B=some ob/\OR φ p o ob
 inj:∀b b' o o' p p',H.get b=some o->H.get b'=some o'->o.own=true->o'.own=true->φ b=some p->φ b'=some p'->p.B=p'.B->b=b'
 base:∀b o,h0.f b=some o->b<h.n/\h.f b=some o
 size:h0.n<=h.n
 frz:∀q,φ.z q->(FzR φ h q/\(φ.y q∨h0.f q.B=none))/\∀b' o' p',H.get b'=some o'->o'.own=true->φ b'=some p'->p'.B≠q.B
 sep:∀b Q,H.get b=some (.sep Q)->Q.P φ.z (φ.s b) h/\∀B,φ.s b B->(B<h.n/\h0.f B=none)/\(∀b' o' p',H.get b'=some o'->o'.own=true->φ b'=some p'->p'.B≠B)/\(∀q,φ.z q->q.B≠B)/\∀b' Q',H.get b'=some (.sep Q')->b'≠b->¬φ.s b' B
theorem HR.b9 {φ ψ:Ph} {H H':AH} {n:Nat} {h0 h g:Hp} (hr:HR φ H n h0 h) (hn:h.n<=g.n) (hH:∀b Q,H'.get b=some (.sep Q)->H.get b=some (.sep Q)/\ψ.s b=φ.s b) (hz:∀q,φ.z q->ψ.z q) (hz2:∀q,ψ.z q->φ.z q∨∀b Q,H.get b=some (.sep Q)->¬φ.s b q.B)
 (hg:∀b Q B,H.get b=some (.sep Q)->φ.s b B->g.f B=h.f B) (ho:∀b' o' p',H'.get b'=some o'->o'.own=true->ψ b'=some p'->(∃b o p,H.get b=some o/\o.own=true/\φ b=some p/\p.B=p'.B)∨h.f p'.B=none∨∀b Q,H.get b=some (.sep Q)->¬φ.s b p'.B):
 ∀b Q,H'.get b=some (.sep Q)->Q.P ψ.z (ψ.s b) g/\∀B,ψ.s b B->(B<g.n/\h0.f B=none)/\(∀b' o' p',H'.get b'=some o'->o'.own=true->ψ b'=some p'->p'.B≠B)/\(∀q,ψ.z q->q.B≠B)/\∀b' Q',H'.get b'=some (.sep Q')->b'≠b->¬ψ.s b' B:=fun b Q hb=>by
 obtain⟨h1,h2⟩:=hH b Q hb;obtain⟨h3,h4⟩:=hr.sep b Q h1;rw[h2];refine⟨Q.mono _ _ _ _ hz (Q.loc _ _ _ _ hn (fun B hB=>hg b Q B h1 hB) h3),fun B hB=>?_⟩;obtain⟨k1,k2,k3,k4⟩:=h4 B hB;refine⟨⟨Nat.lt_of_lt_of_le k1.1 hn,k1.2⟩,fun b' o' p' e1 e2 e3 e4=>?_,fun q hq e=>?_,fun b' Q' e1 e2 e3=>?_⟩
 ·rcases ho b' o' p' e1 e2 e3 with⟨c,o,p,g1,g2,g3,g4⟩|g|g
  ·exact k2 c o p g1 g2 g3 (g4.trans e4)
  ·obtain⟨x,hx⟩:=Q.ex _ _ _ B h3 hB;rw[e4,hx]at g;cases g
  ·exact g b Q h1 (e4▸hB)
 ·rcases hz2 q hq with g|g
  ·exact k3 q g e
  ·exact g b Q h1 (e▸hB)
 ·obtain⟨f1,f2⟩:=hH b' Q' e1;rw[f2]at e3;exact k4 b' Q' f1 e2 e3
theorem HR.of {φ:Ph} {H:AH} {n:Nat} {h0 h:Hp} (hr:HR φ H n h0 h) {b:Nat} {o:AO} {p:Pl} (hb:H.get b=some o) (hp:φ b=some p):∃ob,h0.f p.B=o.under ob/\h.f p.B=some ob/\OR φ p o ob:=by
 rcases hr.live b o hb with⟨h1,_⟩|⟨q,ob,h1,h2,h3,h4⟩
 ·rw[hp]at h1;cases h1
 rw[hp]at h1;injection h1 with h1;subst h1;exact⟨ob,h2,h3,h4⟩
theorem HR.put {φ:Ph} {H:AH} {n:Nat} {h0 h:Hp} (hr:HR φ H n h0 h) {b:Nat} {o o':AO} {p:Pl} {ob':Obj} (hb:H.get b=some o) (hp:φ b=some p) (ho:OR φ p o' ob') (d:Nat) (hw:o.own=true:=by rfl) (hw':o'.own=true:=by rfl):HR φ (H.set (some o') d b) n h0 (h.put p.B ob'):=by
 obtain⟨ob,hB,_,_⟩:=hr.of hb hp;rw[AO.bA hw]at hB
 have nosep:∀x Q,(H.set (some o') d b).get x=some (.sep Q)->H.get x=some (.sep Q):=fun x Q hx=>by
  rcases PM.aj d H b x _ hx with⟨_,h2⟩|⟨_,h2⟩
  ·injection h2 with h2;subst h2;exact ho.elim
  ·exact h2
 refine⟨hr.dom,fun x q hx=>?_,fun x y q q' px py hx hy hwx hwy hpx hpy e=>?_,fun x q hx=>?_,hr.size,fun q hq=>?_,hr.b9 (Nat.le_refl _) (fun x Q hx=>⟨nosep x Q hx,rfl⟩) (fun _ h=>h) (fun _ h=> .inl h) (fun x Q B hx hB=>aR _ _ _ _ fun e=>((hr.sep x Q hx).2 B hB).2.1 b o p hb hw hp e.symm) fun b' o1 p' e1 e2 e3=>?_⟩;rotate_left 4
 ·rcases PM.aj d H b b' o1 e1 with⟨rfl,_⟩|⟨_,h2⟩
  ·exact .inl ⟨_,o,p',hb,hw,e3,rfl⟩
  ·exact .inl ⟨b',o1,p',h2,e2,e3,rfl⟩
 ·rcases PM.aj d H b x q hx with⟨rfl,h2⟩|⟨h1,h2⟩
  ·injection h2 with h2;subst h2;exact .inr ⟨p,ob',hp,by rw[AO.bA hw'];exact hB,bO _ _ _,ho⟩
  ·rcases hr.live x q h2 with hv|⟨px,obx,h3,h4,h5,h6⟩
   ·exact .inl hv
   refine .inr ⟨px,obx,h3,h4,?_,h6⟩
   rw[aR _ _ _ _ (fun e=>by
    cases hq:q.own with
    |true=>exact h1 (hr.inj x b q o px p h2 hb hq hw h3 hp e)
    |false=>
     rw[e,hB]at h4;cases q<;>first|(cases hq;done)|(simp[AO.under]at h4;done))]
   exact h5
 ·have lv:∀z r,(H.set (some o') d b).get z=some r->r.own=true->∃r',H.get z=some r'/\r'.own=true:=fun z r hz hw2=>by
   rcases PM.aj d H b z r hz with⟨rfl,_⟩|⟨_,h2⟩
   ·exact⟨o,hb,hw⟩
   ·exact⟨r,h2,hw2⟩
  obtain⟨r,hr1,hr3⟩:=lv x q hx hwx;obtain⟨r',hr2,hr4⟩:=lv y q' hy hwy;exact hr.inj x y r r' px py hr1 hr2 hr3 hr4 hpx hpy e
 ·obtain⟨h1,h2⟩:=hr.base x q hx;exact⟨h1,by rw[aR _ _ _ _ (fun e=>by subst e;rw[hB]at hx;cases hx)];exact h2⟩
 ·obtain⟨⟨h1,h9⟩,h2⟩:=hr.frz q hq;refine⟨⟨h1.grow (Nat.le_refl _) (aR _ _ _ _ fun e=>h2 b o p hb hw hp e.symm),h9⟩,fun y oy py hy hwy hpy=>?_⟩;rcases PM.aj d H b y oy hy with⟨rfl,_⟩|⟨_,h3⟩
  ·exact h2 y o py hb hw hpy
  ·exact h2 y oy py h3 hwy hpy
def ez (φ:Ph) (n:Nat) (p:Pl):Ph:=⟨fun x=>if x=n then some p else φ x,φ.z,φ.y,φ.s⟩
theorem HR.ple {φ:Ph} {H:AH} {n:Nat} {h0 h:Hp} (hr:HR φ H n h0 h) (p:Pl):PLe φ (ez φ n p):=⟨fun b q e=>by
 show(if b=n then some p else φ b)=some q;rw[if_neg (by have:=(hr.dom b q e).1;omega)];exact e,fun _ h=>h,fun _ h=>h⟩
theorem bw (φ:Ph) (n:Nat) (p:Pl):ez φ n p n=some p:=by simp[ez]
theorem HR.new {φ:Ph} {H:AH} {n:Nat} {h0 h:Hp} (hr:HR φ H n h0 h) {s T:Nat} {o:AO} {ob:Obj} (ho:OR (ez φ n ⟨h.n,s,T⟩) ⟨h.n,s,T⟩ o ob) (d:Nat) (hw:o.own=true:=by rfl):HR (ez φ n ⟨h.n,s,T⟩) (H.set (some o) d n) (n+1) h0 ((h.put h.n ob).to (h.n+1)):=by
 have old:∀x q,H.get x=some q->(φ x=none/\q.free=true)∨∃p ob',φ x=some p/\x<n/\p.B<h.n/\h0.f p.B=q.under ob'/\h.f p.B=some ob'/\OR φ p q ob':=fun x q hx=>by
  rcases hr.live x q hx with hv|⟨px,obx,h3,h4,h5,h6⟩
  ·exact .inl hv
  exact .inr ⟨px,obx,h3,(hr.dom x px h3).1,(hr.dom x px h3).2,h4,h5,h6⟩
 have hno:h0.f h.n=none:=by
  cases hx:h0.f h.n with
  |none=>rfl
  |some o=>exact absurd (hr.base _ _ hx).1 (Nat.lt_irrefl _)
 have nosep:∀x Q,(H.set (some o) d n).get x=some (.sep Q)->x≠n/\H.get x=some (.sep Q):=fun x Q hx=>by
  rcases PM.aj d H n x _ hx with⟨_,h2⟩|h2
  ·injection h2 with h2;subst h2;exact ho.elim
  ·exact h2
 refine⟨fun x q hx=>?_,fun x q hx=>?_,fun x y q q' px py hx hy hwx hwy hpx hpy e=>?_,fun x q hx=>?_,?_,fun q hq=>?_,hr.b9 (Nat.le_succ _) (fun x Q hx=>⟨(nosep x Q hx).2,rfl⟩) (fun _ h=>h) (fun _ h=> .inl h) (fun x Q B hx hB=>?_) fun b' o1 p' e1 e2 e3=>?_⟩;rotate_left 6
 ·have:B<h.n:=((hr.sep x Q hx).2 B hB).1.1;rw[G0,aR _ _ _ _ (by omega)]
 ·rcases PM.aj d H n b' o1 e1 with⟨rfl,_⟩|⟨h1,h2⟩
  ·rw[bw]at e3;injection e3 with e3;subst e3;exact .inr (.inr fun x Q hx hB=>by have:h.n<h.n:=((hr.sep x Q hx).2 _ hB).1.1;omega)
  ·simp only[ez,if_neg h1]at e3;exact .inl ⟨b',o1,p',h2,e2,e3,rfl⟩
 ·simp only[ez]at hx;split at hx
  ·injection hx with hx;subst hx;simp only[GZ];omega
  ·have:=hr.dom x q hx;simp only[GZ];omega
 ·rcases PM.aj d H n x q hx with⟨rfl,h2⟩|⟨h1,h2⟩
  ·injection h2 with h2;subst h2;exact .inr ⟨_,ob,bw _ _ _,by rw[AO.bA hw];exact hno,by rw[G0];exact bO _ _ _,ho⟩
  ·rcases old x q h2 with⟨hv,hv2⟩|⟨px,obx,h3,h4,h5,h6,h7,h8⟩
   ·exact .inl ⟨by simp only[ez,if_neg h1];exact hv,hv2⟩
   refine .inr ⟨px,obx,hr.ple _ _ _ h3,h6,?_,h8.mono (hr.ple _)⟩;rw[G0,aR _ _ _ _ (by omega)];exact h7
 ·have cs:∀z r pz,(H.set (some o) d n).get z=some r->ez φ n ⟨h.n,s,T⟩ z=some pz->(z=n/\pz.B=h.n)∨(z≠n/\H.get z=some r/\φ z=some pz/\pz.B<h.n):=fun z r pz hz hpz=>by
   rcases PM.aj d H n z r hz with⟨rfl,_⟩|⟨h1,h2⟩
   ·rw[bw]at hpz;injection hpz with hpz;subst hpz;exact .inl ⟨rfl,rfl⟩
   ·simp only[ez,if_neg h1]at hpz;exact .inr ⟨h1,h2,hpz,(hr.dom _ _ hpz).2⟩
  rcases cs x q px hx hpx with⟨a1,a2⟩|⟨a1,a2,a3,a4⟩<;>rcases cs y q' py hy hpy with⟨b1,b2⟩|⟨b1,b2,b3,b4⟩
  ·omega
  ·omega
  ·omega
  ·exact hr.inj x y q q' px py a2 b2 hwx hwy a3 b3 e
 ·obtain⟨h1,h2⟩:=hr.base x q hx;exact⟨by simp only[GZ];omega,by rw[G0,aR _ _ _ _ (by omega)];exact h2⟩
 ·have:=hr.size
  (try simp only[GZ]);omega
 ·obtain⟨⟨h1,h9⟩,h2⟩:=hr.frz q hq;have hlt:=h1.1.1;refine⟨⟨FzR.mono (hr.ple _).z (h1.grow (g:=(h.put h.n ob).to (h.n+1)) (by simp only[GZ];omega) (by rw[G0,aR _ _ _ _ (by omega)])),h9⟩,fun y oy py hy hwy hpy=>?_⟩;rcases PM.aj d H n y oy hy with⟨rfl,_⟩|⟨h3,h4⟩
  ·rw[bw]at hpy;injection hpy with hpy;subst hpy;exact fun e=>by simp only at e;omega
  ·simp only[ez,if_neg h3]at hpy;exact h2 y oy py h4 hwy hpy
theorem HR.kill {φ:Ph} {H:AH} {n:Nat} {h0 h:Hp} (hr:HR φ H n h0 h) (d b:Nat):HR φ (H.set none d b) n h0 h:=by
 have old:∀x q,(H.set none d b).get x=some q->H.get x=some q:=fun x q hx=>by
  rcases PM.aj d H b x q hx with⟨_,h2⟩|⟨_,h2⟩
  ·cases h2
  ·exact h2
 exact⟨hr.dom,fun x q hx=>hr.live x q (old x q hx),fun x y q q' px py hx hy=>hr.inj x y q q' px py (old x q hx) (old y q' hy),hr.base,hr.size,fun q hq=>⟨(hr.frz q hq).1,fun y oy py hy=>(hr.frz q hq).2 y oy py (old y oy hy)⟩,hr.b9 (Nat.le_refl _) (fun x Q hx=>⟨old x _ hx,rfl⟩) (fun _ h=>h) (fun _ h=> .inl h) (fun _ _ _ _ _=>rfl) fun b' o' p' e1 e2 e3=> .inl ⟨b',o',p',old b' o' e1,e2,e3,rfl⟩⟩
theorem HR.rename {φ:Ph} {H:AH} {n:Nat} {h0 h:Hp} (hr:HR φ H n h0 h) {b:Nat} {o o':AO} {p q:Pl} {ob':Obj} (hb:H.get b=some o) (hp:φ b=some p) (hq:q.B=p.B) (ho:OR (ez φ n q) q o' ob') (d d':Nat) (hw:o.own=true:=by rfl) (hw':o'.own=true:=by rfl):
 HR (ez φ n q) ((H.set none d' b).set (some o') d n) (n+1) h0 (h.put p.B ob'):=by
 obtain⟨ob,hB,_,_⟩:=hr.of hb hp;rw[AO.bA hw]at hB;have hpB:=(hr.dom b p hp).2
 have old:∀x r,(H.set none d' b).get x=some r->x≠b/\H.get x=some r:=fun x r hx=>by
  rcases PM.aj d' H b x r hx with⟨_,h2⟩|⟨h1,h2⟩
  ·cases h2
  ·exact⟨h1,h2⟩
 refine⟨fun x r hx=>?_,fun x r hx=>?_,fun x y r r' px py hx hy hwx hwy hpx hpy e=>?_,fun x r hx=>?_,hr.size,fun z hzq=>?_,hr.b9 (Nat.le_refl _) (fun x Q hx=>?_) (fun _ h=>h) (fun _ h=> .inl h) (fun x Q B hx hB=>aR _ _ _ _ fun e=>((hr.sep x Q hx).2 B hB).2.1 b o p hb hw hp e.symm) fun b' o1 p' e1 e2 e3=>?_⟩;rotate_left 5
 ·rcases PM.aj d _ n x _ hx with⟨_,h2⟩|⟨_,h2⟩
  ·injection h2 with h2;subst h2;exact ho.elim
  ·exact⟨(old x _ h2).2,rfl⟩
 ·rcases PM.aj d _ n b' o1 e1 with⟨rfl,_⟩|⟨h1,h2⟩
  ·rw[bw]at e3;injection e3 with e3;subst e3;exact .inl ⟨b,o,p,hb,hw,hp,hq.symm⟩
  ·simp only[ez,if_neg h1]at e3;exact .inl ⟨b',o1,p',(old b' o1 h2).2,e2,e3,rfl⟩
 ·simp only[ez]at hx;split at hx
  ·injection hx with hx;subst hx;simp only[Jg];omega
  ·have:=hr.dom x r hx;simp only[Jg];omega
 ·rcases PM.aj d _ n x r hx with⟨rfl,h2⟩|⟨h1,h2⟩
  ·injection h2 with h2;subst h2;exact .inr ⟨_,ob',bw _ _ _,by rw[hq,AO.bA hw'];exact hB,by rw[hq];exact bO _ _ _,ho⟩
  ·obtain⟨h3,h4⟩:=old x r h2;rcases hr.live x r h4 with⟨hv,hv2⟩|⟨px,obx,h5,h6,h7,h8⟩
   ·exact .inl ⟨by simp only[ez,if_neg h1];exact hv,hv2⟩
   refine .inr ⟨px,obx,hr.ple _ _ _ h5,h6,?_,h8.mono (hr.ple _)⟩
   rw[aR _ _ _ _ (fun e=>by
    cases hq:r.own with
    |true=>exact h3 (hr.inj x b r o px p h4 hb hq hw h5 hp e)
    |false=>
     rw[e,hB]at h6;cases r<;>first|(cases hq;done)|(simp[AO.under]at h6;done))]
   exact h7
 ·have cs:∀z r pz,((H.set none d' b).set (some o') d n).get z=some r->ez φ n q z=some pz->(z=n/\pz.B=p.B)∨(z≠n/\z≠b/\H.get z=some r/\φ z=some pz):=fun z r pz hz hpz=>by
   rcases PM.aj d _ n z r hz with⟨rfl,_⟩|⟨h1,h2⟩
   ·rw[bw]at hpz;injection hpz with hpz;subst hpz;exact .inl ⟨rfl,hq⟩
   ·simp only[ez,if_neg h1]at hpz;obtain⟨h3,h4⟩:=old z r h2;exact .inr ⟨h1,h3,h4,hpz⟩
  rcases cs x r px hx hpx with⟨a1,a2⟩|⟨a1,a2,a3,a4⟩<;>rcases cs y r' py hy hpy with⟨b1,b2⟩|⟨b1,b2,b3,b4⟩
  ·omega
  ·exact(b2 (hr.inj y b r' o py p b3 hb hwy hw b4 hp (by omega))).elim
  ·exact(a2 (hr.inj x b r o px p a3 hb hwx hw a4 hp (by omega))).elim
  ·exact hr.inj x y r r' px py a3 b3 hwx hwy a4 b4 e
 ·obtain⟨h1,h2⟩:=hr.base x r hx;exact⟨h1,by rw[aR _ _ _ _ (fun e=>by subst e;rw[hB]at hx;cases hx)];exact h2⟩
 ·obtain⟨⟨h1,h9⟩,h2⟩:=hr.frz z hzq;refine⟨⟨FzR.mono (hr.ple _).z (h1.grow (g:=h.put p.B ob') (Nat.le_refl _) (aR _ _ _ _ fun e=>h2 b o p hb hw hp e.symm)),h9⟩,fun y oy py hy hwy hpy=>?_⟩;rcases PM.aj d _ n y oy hy with⟨rfl,_⟩|⟨h3,h4⟩
  ·rw[bw]at hpy;injection hpy with hpy;subst hpy;rw[hq];exact h2 b o p hb hw hp
  ·simp only[ez,if_neg h3]at hpy;exact h2 y oy py (old y oy h4).2 hwy hpy
def FR (φ:Ph) (σ:AE) (ρ:Env):Prop:=∀t a,σ.get t=some a->VR φ a (ρ t)
theorem FR.mono {φ ψ:Ph} (he:PLe φ ψ) {σ:AE} {ρ:Env} (h:FR φ σ ρ):FR ψ σ ρ:=fun t a e=>VR.mono he _ _ (h t a e)
theorem FR.ev {φ:Ph} {σ:AE} {ρ:Env} (h:FR φ σ ρ) (x:Operand):VR φ (eev σ x) (ρ.ev x):=by
 cases x with
 |tmp t=>
  simp only[eev,Env.ev];rcases lI eg t σ _ rfl with e|e
  ·show VR φ (ak (pathOf eg t) σ) (ρ t);rw[e];exact .bad _
  ·exact h t _ e
 |const v=>exact oF v
 |global g=>exact .any _
 |func f=>exact .fn (xs:= #[]) (cs:= #[]) .nil .nil
theorem FR.at {φ:Ph} {σ:AE} {ρ:Env} (h:FR φ σ ρ) (t:Nat):VR φ (ak (pa t) σ) (ρ t):=FR.ev h (.tmp t)
theorem FR.put {φ:Ph} {σ:AE} {ρ:Env} (h:FR φ σ ρ) (d:Option Nat) {a:AV} {v:Value} (hv:VR φ a v):FR φ (cN σ d a) (ρ.put d v):=by
 cases d with
 |none=>exact h
 |some d=>
  intro t x e;rcases nK eg σ d t x e with⟨rfl,h2⟩|⟨h1,h2⟩
  ·subst h2;rw[qj,uk];exact hv
  ·rw[qj,QR _ _ _ _ h1];exact h t x h2
theorem cS (s:List Nat):(dU s).toList=s.map UInt8.ofNat:=ByteArray.toList_mk _
theorem ia (s:List Nat):(dU s).size=s.length:=by
 show(s.map UInt8.ofNat).toArray.size=_;simp
theorem AL (a b:List Nat):dU a++dU b=dU (a++b):=by
 apply ByteArray.ext;simp[dU]
theorem yI (s:List Nat) (l h:Nat):(dU s).extract l h=dU ((s.drop l).take (h-l)):=by
 unfold dU;rw[ByteArray.extract_mk];simp[List.map_take,List.map_drop]
theorem ofNat_inj {a b:Nat} (ha:a<256) (hb:b<256) (h:UInt8.ofNat a=UInt8.ofNat b):a=b:=by
 have:=congrArg UInt8.toNat h;simp only[UInt8.toNat_ofNat']at this;omega
theorem lJ:∀(a b:List Nat),(∀x∈a,x<256)->(∀x∈b,x<256)->dp a b=(a.map UInt8.ofNat==b.map UInt8.ofNat)
 | [],[],_,_=>by simp[dp]
 | [],_::_,_,_=>by simp[dp]
 |_::_,[],_,_=>by simp[dp]
 |a::x,b::y,ha,hb=>by
  unfold dp;have ih:=lJ x y (fun z hz=>ha z (by simp[hz])) (fun z hz=>hb z (by simp[hz]));rw[List.map_cons,List.map_cons,List.cons_beq_cons];split
  ·rename_i e;have:=Nat.eq_of_beq_eq_true e;subst this;simp[ih]
  ·rename_i e;have hne:a≠b:=fun q=>by subst q;simp at e
   have:UInt8.ofNat a≠UInt8.ofNat b:=fun q=>hne (ofNat_inj (ha a (by simp)) (hb b (by simp)) q)
   simp[this]
theorem AM:∀(a b:List Nat),(∀x∈a,x<256)->(∀x∈b,x<256)->ltL a b=Op.bytesLess (a.map UInt8.ofNat) (b.map UInt8.ofNat)
 | [],[],_,_=>by simp[ltL,Op.bytesLess]
 | [],_::_,_,_=>by simp[ltL,Op.bytesLess]
 |_::_,[],_,_=>by simp[ltL,Op.bytesLess]
 |a::x,b::y,ha,hb=>by
  unfold ltL;have ih:=AM x y (fun z hz=>ha z (by simp[hz])) (fun z hz=>hb z (by simp[hz]));have ha':=ha a (by simp);have hb':=hb b (by simp);rw[List.map_cons,List.map_cons,Op.bytesLess];split
  ·rename_i e;have:=Nat.eq_of_beq_eq_true e;subst this;simp[ih]
  ·rename_i e;have hne:a≠b:=fun q=>by subst q;simp at e
   have h2:UInt8.ofNat a≠UInt8.ofNat b:=fun q=>hne (ofNat_inj ha' hb' q)
   have h3:decide (UInt8.ofNat a<UInt8.ofNat b)=Nat.blt a b:=by
    rw[Bool.eq_iff_iff,decide_eq_true_eq,UInt8.lt_iff_toNat_lt,UInt8.toNat_ofNat',UInt8.toNat_ofNat',Nat.mod_eq_of_lt ha',Nat.mod_eq_of_lt hb'];simp[Nat.blt_eq]
   simp[h2,h3]
section
variable {P:Program} {φ:Ph} {H:AH} {n:Nat} {h0 h:Hp} {K:Value->Prop}
theorem uO {op:BinOp} {t:TypeId} {k k':IntKind} {a b:Int} {r:AV} (e:Ng op k k' a b=some r) (hk:∀v,VR φ r v->K v):kh P op t (.int k a) (.int k' b) K:=by
 unfold Ng at e
 (try simp only[kh])
 cases op<;>simp only at e⊢
 case shl=>split at e<;>first|(injection e with e;subst e;exact⟨by assumption,hk _ (.int _ _)⟩)|cases e
 case shr=>split at e<;>first|(injection e with e;subst e;exact⟨by assumption,hk _ (.int _ _)⟩)|cases e
 case quo=>
  split at e
  ·rename_i hkk;split at e
   ·cases e
   ·rename_i hb;injection e with e;subst e;exact⟨hkk,hb,hk _ (.int _ _)⟩
  ·cases e
 case rem=>
  split at e
  ·rename_i hkk;split at e
   ·cases e
   ·rename_i hb;injection e with e;subst e;exact⟨hkk,hb,hk _ (.int _ _)⟩
  ·cases e
 case neq=>
  split at e
  ·rename_i hkk;injection e with e;subst e;refine⟨hkk,?_⟩;have:decide (a≠b)=!decide (a=b):=by by_cases q:a=b<;>simp[q]
   rw[this];exact hk _ (.bool _)
  ·cases e
 all_goals
  split at e
  ·rename_i hkk;injection e with e;subst e;exact⟨hkk,hk _ (by first|exact .int _ _|exact .bool _)⟩
  ·cases e
theorem uP {op:BinOp} {t:TypeId} {a b:List Nat} {r:AV} (ha:∀x∈a,x<256) (hb:∀x∈b,x<256) (e:Jy op a b=some r) (hk:∀v,VR φ r v->K v):kh P op t (.string (dU a)) (.string (dU b)) K:=by
 unfold Jy at e;have e1:dp a b=((dU a).toList==(dU b).toList):=by rw[cS,cS];exact lJ a b ha hb
 have e2:ltL a b=Op.bytesLess (dU a).toList (dU b).toList:=by rw[cS,cS];exact AM a b ha hb
 cases op<;>simp only at e<;>simp only[kh]
 case add=>
  split at e
  ·rename_i hle;injection e with e;subst e;refine⟨by rw[ia,ia];exact hle,?_⟩;rw[AL];exact hk _ (.str fun x hx=>(List.mem_append.1 hx).elim (ha x) (hb x))
  ·cases e
 all_goals first|(cases e;done)|(injection e with e;subst e;(first|rw[<-e1,<-e2]|rw[<-e1]|rw[<-e2]);exact hk _ (.bool _))
end
theorem VRs.of {φ:Ph}:∀{l:List AV} {vs:List Value},l.length=vs.length->(∀(i:Nat) (a:AV),l[i]?=some a->∃v,vs[i]?=some v/\VR φ a v)->VRs φ l vs
 | [],[],_,_=> .nil
 | [],_::_,h,_=>by simp at h
 |_::_,[],h,_=>by simp at h
 |a::l,v::vs,h,k=>by
  obtain⟨u,h1,h2⟩:=k 0 a rfl
  simp only[List.getElem?_cons_zero,Option.some.injEq]at h1;subst h1;refine .cons h2 (VRs.of (by simpa using h) fun i b e=>?_);obtain⟨w,h3,h4⟩:=k (i+1) b (by simpa using e);exact⟨w,by simpa using h3,h4⟩
theorem VRs.VK {φ:Ph} {l:List AV} {c:Array Value} (h:VRs φ l c.toList):CR φ c 0 l:=CR.of' h
theorem CR.Ty {φ:Ph} {l:List AV} {c:Array Value} (hl:l.length=c.size) (h:CR φ c 0 l):VRs φ l c.toList:=
 VRs.of (by simpa using hl) fun i a e=>by
  obtain⟨v,h1,h2⟩:=h i a e;exact⟨v,by simpa using h1,h2⟩
theorem lK (φ:Ph) (z:Value):VRs φ (ofV z).cells z.cells.toList:=by
 have h:=oF (φ:=φ) z
 have hc:okC (ofV z)=true:=by
  unfold ofV;split
  ·rfl
  ·rfl
  ·rename_i h1 h2;unfold AF;split<;>first|rfl|(cases z<;>first|rfl|exact(h1 _ rfl).elim|exact(h2 _ rfl).elim)
 exact h.cells hc
section
variable {P:Program} {φ:Ph} {H:AH} {n:Nat} {h0 h:Hp} {K:Value->Prop}
theorem nM (hr:HR φ H n h0 h) {t:TypeId} {a r:AV} {v:Value} (ha:VR φ a v) (e:xd P t a H=some r) (hk:∀u,VR φ r u->K u):ki P t v h K:=by
 unfold xd at e;split at e
 ·rename_i b o;obtain⟨p,hp,rfl⟩:=ha.ct;split at e
  ·rename_i l z hb;obtain⟨ob,hB,hf,c,t',fz,rfl,h1,h2,h3,h4,h5⟩:=hr.of hb hp
   (try simp only[ki,hf])
   split at e
   ·rename_i hg;obtain⟨v,h6,h7⟩:=h5.nth e
    (try simp only[hg,h6])
    exact hk v h7
   ·rename_i hg;split at e
    ·rename_i m hm;simp only[Option.map_eq_some_iff]at e;obtain⟨l',e1,rfl⟩:=e;obtain⟨vs,h6,h7⟩:=h5.sub e1
     (try simp only[hg,hm,h6])
     exact hk _ (.agg (by simpa using h7))
    ·cases e
   ·cases e
  ·rename_i l hb;obtain⟨ob,hB,hf,c,t',fz,rfl,h1,h2,h5⟩:=hr.of hb hp
   (try simp only[ki,hf])
   split at e
   ·rename_i hg;obtain⟨v,h6,h7⟩:=h5.nth e
    (try simp only[hg,h6])
    exact hk v h7
   ·rename_i hg;split at e
    ·rename_i m hm;simp only[Option.map_eq_some_iff]at e;obtain⟨l',e1,rfl⟩:=e;obtain⟨vs,h6,h7⟩:=h5.sub e1
     (try simp only[hg,hm,h6])
     exact hk _ (.agg (by simpa using h7))
    ·cases e
   ·cases e
  ·cases e
 ·cases e
theorem js {op:BinOp} {q:Option Bool} {r:AV} (e:pn op q=some r):∃b,q=some b/\(op= .eql/\r= .bool b∨op= .neq/\r= .bool (!b)):=by
 unfold pn at e;split at e
 ·cases e
 ·rename_i b;cases op<;>simp only at e<;>first|(cases e;done)|(injection e with e;subst e;exact⟨b,rfl,by simp⟩)
theorem iS {xs ys:List AV} {vs us:Array Value} (hx:VRs φ xs vs.toList) (hy:VRs φ ys us.toList):∀(l:List (Nat×Nat)) (q:Bool),jr xs ys l=some q->cH vs us l=some q
 | [],q,e=>e
 |(k,o)::l,q,e=>by
  unfold jr at e;simp only[fA]at e;split at e
  ·rename_i k1 a k2 b e1 e2;obtain⟨v1,g1,g2⟩:=hx.at e1;obtain⟨v2,g3,g4⟩:=hy.at e2;rw[g2.bV,Array.getElem?_toList]at g1;rw[g4.bV,Array.getElem?_toList]at g3;split at e
   ·rename_i hc;simp only[Option.map_eq_some_iff]at e;obtain⟨q',e3,rfl⟩:=e
    (try simp only[cH,g1,g3])
    rw[if_pos hc,iS hx hy l q' e3];rfl
   ·cases e
  ·rename_i a b e1 e2;obtain⟨v1,g1,g2⟩:=hx.at e1;obtain⟨v2,g3,g4⟩:=hy.at e2;rw[g2.cr.1,Array.getElem?_toList]at g1;rw[g4.cr.1,Array.getElem?_toList]at g3;split at e
   ·rename_i hc;simp only[Option.map_eq_some_iff]at e;obtain⟨q',e3,rfl⟩:=e
    (try simp only[cH,g1,g3])
    rw[if_pos hc,iS hx hy l q' e3,cS,cS,lJ a b g2.cr.2 g4.cr.2];rfl
   ·cases e
  ·rename_i a b e1 e2;obtain⟨v1,g1,g2⟩:=hx.at e1;obtain⟨v2,g3,g4⟩:=hy.at e2;rw[g2.bQ,Array.getElem?_toList]at g1;rw[g4.bQ,Array.getElem?_toList]at g3;split at e
   ·rename_i hc;simp only[Option.map_eq_some_iff]at e;obtain⟨q',e3,rfl⟩:=e
    (try simp only[cH,g1,g3])
    rw[if_pos hc,iS hx hy l q' e3];rfl
   ·cases e
  ·cases e
theorem AN {t:TypeId} (e:Dg P t=true):∃x,P.underlying t=some (.pointer x):=by
 unfold Dg at e;split at e
 ·exact⟨_,by assumption⟩
 ·cases e
theorem Dn {t:TypeId} (e:uH P t=true):∃x,P.underlying t=some (.slice x):=by
 unfold uH at e;split at e
 ·exact⟨_,by assumption⟩
 ·cases e
theorem qA {t:TypeId} (e:tM P t=true):P.underlying t=some .bool:=by
 unfold tM at e;split at e
 ·assumption
 ·cases e
theorem s6 (hr:HR φ H n h0 h) {b:Nat} {p:Pl} (hp:φ b=some p) (e:yC H b=true):∃c t o,H.get b=some o/\o.own=true/\h.f p.B=some (.cells c t (0,0)):=by
 unfold yC at e;split at e
 ·rename_i l hb;obtain⟨ob,hB,hf,c,t',fz,rfl,_,_,_,h4,_⟩:=hr.of hb hp;have:=h4 rfl
  subst this;exact⟨c,t',_,hb,rfl,hf⟩
 ·cases e
theorem mH (hr:HR φ H n h0 h) {op:BinOp} {t:TypeId} {x y r:AV} {v u:Value} (hx:VR φ x v) (hy:VR φ y u) (e:wQ P op t x y H=some r) (hk:∀u,VR φ r u->K u):jn P op t v u h K:=by
 unfold wQ at e;split at e
 ·rename_i k a k' b;rw[hx.bV,hy.bV];show kh P op t (.int k a) (.int k' b) K;exact uO e hk
 ·rename_i a b;obtain⟨rfl,ha⟩:=hx.cr;obtain⟨rfl,hb⟩:=hy.cr;show kh P op t (.string (dU a)) (.string (dU b)) K;exact uP ha hb e hk
 ·rename_i a b;rw[hx.bQ,hy.bQ];split at e
  ·rename_i ht;have ht:=qA ht;obtain⟨q,hq,⟨rfl,rfl⟩|⟨rfl,rfl⟩⟩:=js e
   ·injection hq with hq;subst hq;exact⟨ht,hk _ (.bool _)⟩
   ·injection hq with hq;subst hq;exact⟨ht,hk _ (.bool _)⟩
  ·cases e
 ·rename_i b o b' o';obtain⟨p,hp,rfl⟩:=hx.ct;obtain⟨p',hp',rfl⟩:=hy.ct;obtain⟨q,hq,hop⟩:=js e
  have key:∃el k,P.underlying t=some (.pointer el)/\aB P el=some (k+1)/\
   ((⟨p.B,p.s+o,none⟩:Addr)=⟨p'.B,p'.s+o',none⟩∨(∃ca ta cb tb,h.f p.B=some (.cells ca ta (0,0))/\h.f p'.B=some (.cells cb tb (0,0))))/\q=decide ((⟨p.B,p.s+o,none⟩:Addr)=⟨p'.B,p'.s+o',none⟩):=by
   unfold Tw at hq;split at hq
   ·rename_i el hu;split at hq
    ·rename_i k hs;refine⟨el,k,hu,hs,?_⟩;split at hq
     ·rename_i hbb;simp only[Bool.and_eq_true]at hbb;have h1:=Nat.eq_of_beq_eq_true hbb.1;have h2:=Nat.eq_of_beq_eq_true hbb.2;subst h1 h2;rw[hp]at hp';injection hp' with hp';subst hp';injection hq with hq;subst hq;exact⟨.inl rfl,by simp⟩
     ·rename_i hbb;split at hq
      ·rename_i hpl;injection hq with hq;subst hq;simp only[Bool.and_eq_true]at hpl;obtain⟨c,ty,ob,g1,g5,g2⟩:=s6 hr hp hpl.1;obtain⟨c',ty',ob',g3,g6,g4⟩:=s6 hr hp' hpl.2;refine⟨.inr ⟨c,ty,c',ty',g2,g4⟩,?_⟩
       have hne:¬(⟨p.B,p.s+o,none⟩:Addr)=⟨p'.B,p'.s+o',none⟩:=fun q=>by
        injection q with q1 q2;have:=hr.inj b b' _ _ p p' g1 g3 g5 g6 hp hp' q1;subst this;rw[hp]at hp';injection hp' with hp';subst hp';have:o=o':=by omega
        subst this;simp at hbb
       simp[hne]
      ·cases hq
    ·cases hq
   ·cases hq
  obtain⟨el,k,hu,hs,hc,rfl⟩:=key;rcases hop with⟨rfl,rfl⟩|⟨rfl,rfl⟩
  ·(try simp only[jn,G3,hu])
   exact⟨⟨k,hs⟩,hc,hk _ (.bool _)⟩
  ·(try simp only[jn,G3,hu])
   exact⟨⟨k,hs⟩,hc,hk _ (.bool _)⟩
 ·rw[hy.aM];split at e
  ·rename_i ht;obtain⟨el,ht⟩:=AN ht;obtain⟨q,hq,hop⟩:=js e
   have key:∃a,v= .pointer a/\q=a.isNone:=by
    unfold Jz at hq;split at hq
    ·injection hq with hq;exact⟨none,hx.aM,hq.symm⟩
    ·obtain⟨p,_,rfl⟩:=hx.ct;injection hq with hq;exact⟨_,rfl,hq.symm⟩
    ·injection hq with hq;exact⟨_,hx.tN,hq.symm⟩
    ·cases hq
   obtain⟨a,rfl,rfl⟩:=key;have hab:jn P op t (.pointer a) (.pointer none) h K=kh P op t (.pointer a) (.pointer none) K:=by cases a<;>rfl
   rw[hab];rcases hop with⟨rfl,rfl⟩|⟨rfl,rfl⟩
   ·(try simp only[kh,ht]);exact hk _ (.bool _)
   ·(try simp only[kh,ht]);exact hk _ (.bool _)
  ·cases e
 ·rw[hy.cP];split at e
  ·rename_i ht;obtain⟨el,ht⟩:=Dn ht;obtain⟨q,hq,hop⟩:=js e
   have key:∃a m c,v= .slice a m c/\q=a.isNone:=by
    unfold JA at hq;split at hq
    ·injection hq with hq;exact⟨none,_,_,hx.cP,hq.symm⟩
    ·obtain⟨p,C,_,rfl,_⟩:=hx.eo;injection hq with hq;exact⟨_,_,_,rfl,hq.symm⟩
    ·obtain⟨p,x,C,_,rfl,_⟩:=hx.jU;injection hq with hq;exact⟨_,_,_,rfl,hq.symm⟩
    ·cases hq
   obtain⟨a,m,c,rfl,rfl⟩:=key;rcases hop with⟨rfl,rfl⟩|⟨rfl,rfl⟩
   ·(try simp only[jn,kh,ht]);exact hk _ (.bool _)
   ·(try simp only[jn,kh,ht]);exact hk _ (.bool _)
  ·cases e
 ·rename_i xs ys;obtain⟨vs,rfl,h1⟩:=hx.dC;obtain⟨us,rfl,h2⟩:=hy.dC;obtain⟨q,hq,hop⟩:=js e
  have key:uo P t vs us=some q:=by
   simp only[Option.bind_eq_some_iff]at hq;obtain⟨l,hl,hq⟩:=hq;simp only[uo,hl,Option.bind_some];exact iS h1 h2 l q hq
  rcases hop with⟨rfl,rfl⟩|⟨rfl,rfl⟩
  ·(try simp only[jn,kh,key]);exact hk _ (.bool _)
  ·(try simp only[jn,kh,key]);exact hk _ (.bool _)
 ·cases e
theorem xj {op:UnOp} {x r:AV} {v:Value} (hx:VR φ x v) (e:eun op x=some r) (hk:∀u,VR φ r u->K u):aun op v K:=by
 unfold eun at e;split at e
 ·rw[hx.bQ];injection e with e;subst e;exact hk _ (.bool _)
 ·rw[hx.bV];injection e with e;subst e;exact hk _ (.int _ _)
 ·rw[hx.bV];injection e with e;subst e;exact hk _ (.int _ _)
 ·cases e
theorem nN {t:TypeId} {l:List AV} {off:Nat} {r:AV} {cs:Array Value} (hl:VRs φ l cs.toList) (e:xe P t l off=some r) (hk:∀u,VR φ r u->K u):mo P t cs off K:=by
 unfold xe at e;split at e
 ·rename_i hg;obtain⟨v,h1,h2⟩:=hl.at (by rw[<-fA];exact e);rw[Array.getElem?_toList]at h1
  (try simp only[mo,hg,h1])
  exact hk v h2
 ·rename_i hg;split at e
  ·rename_i m hm;simp only[Option.map_eq_some_iff]at e;obtain⟨l',e1,rfl⟩:=e;obtain⟨h1,rfl⟩:=bu e1
   (try simp only[mo,hg,hm])
   refine hk _ (.agg ?_);have:=(hl.drop off).take m;rw[Array.toList_extract,List.extract_eq_take_drop];rw[show off+m-off=m from by omega];exact this
  ·cases e
 ·cases e
theorem yJ {s:TypeId} {x r:AV} {i:Nat} {v:Value} (hx:VR φ x v) (e:Dh P s x i=some r) (hk:∀u,VR φ r u->K u):pA P s v i K:=by
 unfold Dh at e;split at e
 ·rename_i l t off ht;obtain⟨cs,rfl,h1⟩:=hx.dC
  (try simp only[pA,ht])
  exact nN h1 e hk
 ·cases e
theorem rP {s:TypeId} {x r:AV} {i:Nat} {v:Value} (hx:VR φ x v) (e:pH P s x i=some r) (hk:∀u,VR φ r u->K u):fw P s v i K:=by
 unfold pH at e;split at e
 ·rename_i b o t off ht;obtain⟨p,hp,rfl⟩:=hx.ct;injection e with e;subst e
  (try simp only[fw,ht])
  rw[Nat.add_assoc];exact hk _ (.ptr hp)
 ·rename_i l o t off ht;obtain⟨q,y,hq,rfl,hl⟩:=hx.yH;injection e with e;subst e
  (try simp only[fw,ht])
  rw[Nat.add_assoc];exact hk _ (.fa hq hl)
 ·cases e
theorem nO {ix:AV} {len i:Nat} {v:Value} (hx:VR φ ix v) (e:eix ix len=some i):i<len/\∃k,v= .int k (i:Int):=by
 unfold eix at e;split at e
 ·rename_i k j;split at e
  ·rename_i hb;injection e with e;subst e;exact⟨by simpa[Nat.blt_eq]using hb,k,hx.bV⟩
  ·cases e
 ·cases e
theorem rQ {t:TypeId} {x ix r:AV} {v u:Value} (hx:VR φ x v) (hi:VR φ ix u) (e:pI P t x ix=some r) (hk:∀u,VR φ r u->K u):cm P t v u K:=by
 unfold pI at e;split at e
 ·rename_i el b o m c k hu;obtain⟨p,C,hp,rfl,_,_⟩:=hx.eo;split at e
  ·rename_i i es e1 e2;obtain⟨h1,kk,rfl⟩:=nO hi e1;injection e with e;subst e
   (try simp only[cm,hu,e2])
   refine⟨by omega,by omega,?_⟩;rw[Int.toNat_natCast,Nat.add_assoc];exact hk _ (.ptr hp)
  ·cases e
 ·rename_i len el b o hu;obtain⟨p,hp,rfl⟩:=hx.ct;split at e
  ·rename_i i es e1 e2;obtain⟨h1,kk,rfl⟩:=nO hi e1;injection e with e;subst e
   (try simp only[cm,hu,e2])
   refine⟨by omega,by omega,?_⟩;rw[Int.toNat_natCast,Nat.add_assoc];exact hk _ (.ptr hp)
  ·cases e
 ·cases e
theorem yK {t:TypeId} {x ix r:AV} {v u:Value} (hx:VR φ x v) (hi:VR φ ix u) (e:Di P t x ix=some r) (hk:∀u,VR φ r u->K u):jD P t v u K:=by
 unfold Di at e;split at e
 ·rename_i len el l hu;obtain⟨cs,rfl,hl⟩:=hx.dC;split at e
  ·rename_i i es e1 e2;obtain⟨h1,kk,rfl⟩:=nO hi e1
   (try simp only[jD,hu,e2])
   refine⟨by omega,by omega,?_⟩;rw[Int.toNat_natCast];exact nN hl e hk
  ·cases e
 ·rename_i s hu;obtain⟨rfl,hs⟩:=hx.cr;split at e
  ·rename_i i e1;obtain⟨h1,kk,rfl⟩:=nO hi e1;simp only[Option.map_eq_some_iff,fA]at e;obtain⟨c,hc,rfl⟩:=e;have h2:=hs c (List.mem_of_getElem? hc);simp only[jD,hu,cS,Int.toNat_natCast,List.getElem?_map,hc,Option.map_some];refine⟨by omega,hk _ ?_⟩
   have:((UInt8.ofNat c).toNat:Int)=Int.ofNat c:=by
    rw[UInt8.toNat_ofNat',Nat.mod_eq_of_lt h2];rfl
   rw[this];exact .int _ _
  ·cases e
 ·cases e
theorem uQ {x r:AV} {i:Nat} {v:Value} (hx:VR φ x v) (e:uI x i=some r) (hk:∀u,VR φ r u->K u):kj v i K:=by
 unfold uI at e;split at e
 ·rename_i l;obtain⟨cs,rfl,hl⟩:=hx.eQ;obtain⟨v,h1,h2⟩:=hl.at (by rw[<-fA];exact e);rw[Array.getElem?_toList]at h1
  (try simp only[kj,h1])
  exact hk v h2
 ·cases e
theorem mI (hr:HR φ H n h0 h) {t:TypeId} {x r:AV} {v:Value} (hx:VR φ x v) (e:Hn P t x H=some r) (hk:∀u,VR φ r u->K u):lD P t v h K:=by
 unfold Hn at e;split at e
 ·rename_i s hu;obtain⟨rfl,_⟩:=hx.cr;injection e with e;subst e
  (try simp only[lD,hu,ia])
  exact hk _ (.int _ _)
 ·rename_i el hu;rw[hx.cP];injection e with e;subst e
  (try simp only[lD,hu])
  exact hk _ (.int _ _)
 ·rename_i el b hu;obtain⟨p,x,C,_,rfl,_⟩:=hx.jU;injection e with e;subst e
  (try simp only[lD,hu])
  exact hk _ (.int _ _)
 ·rename_i el b o m c k hu;obtain⟨p,C,hp,rfl,_,_⟩:=hx.eo;injection e with e;subst e
  (try simp only[lD,hu])
  exact hk _ (.int _ _)
 ·rename_i m el x hu;injection e with e;subst e
  (try simp only[lD,hu])
  exact hk _ (.int _ _)
 ·rename_i k el b hu;obtain⟨p,hp,rfl⟩:=hx.kZ;split at e
  ·rename_i es hb;obtain⟨ob,hB,hf,ms,cl,rfl,h1,_⟩:=hr.of hb hp;injection e with e;subst e;have:=MR.length h1
   (try simp only[lD,hu,hf])
   rw[show(ms.size:Int)=(es.length:Int) from by simp[this]];exact hk _ (.int _ _)
  ·rename_i es bs cl hb;obtain⟨ob,hB,hf,ms,rfl,h1,_⟩:=hr.of hb hp;injection e with e;subst e;have:=MR.length h1
   (try simp only[lD,hu,hf])
   rw[show(ms.size:Int)=(es.length:Int) from by simp[this]];exact hk _ (.int _ _)
  ·cases e
 ·cases e
theorem rR {q:Bool} {x y r:AV} {v u:Value} (hx:VR φ x v) (hy:VR φ y u) (e:emm q x y=some r) (hk:∀u,VR φ r u->K u):cn q v u K:=by
 unfold emm at e;split at e
 ·rw[hx.bV,hy.bV];injection e with e;subst e;exact hk _ (.int _ _)
 ·cases e
end
section
variable {P:Program} {φ:Ph} {H:AH} {n:Nat} {h0 h:Hp} {K:Value->Prop} {σ:AE} {ρ:Env}
theorem fg (hf:FR φ σ ρ) {x:Option Operand} {d i:Nat} (e:lG (x.map (eev σ)) d=some i) (d':Int) (hd:x=none->(i:Int)=d'):bnd (x.map ρ.ev) d'=some (i:Int):=by
 cases x with
 |none=>simp only[Option.map_none,bnd];rw[hd rfl]
 |some y=>
  simp only[Option.map_some,lG]at e;have hy:=hf.ev y;split at e
  ·rename_i q;cases q
  ·rename_i k j q;injection e with e;subst e;injection q with q;rw[q]at hy;simp only[Option.map_some,hy.bV,bnd];rfl
  ·cases e
theorem cZ {d i:Nat} (e:lG none d=some i):i=d:=by injection e with e;exact e.symm
theorem isSome_map {α β:Type} (f:α->β) (x:Option α):(x.map f).isSome=x.isSome:=by cases x<;>rfl
theorem jV (B o l hh m k:Nat):iw (some ⟨B,o,none⟩) l hh m k= .slice (some ⟨B,if m=l then o else o+l*k,none⟩) (hh-l) (m-l):=by
 unfold iw;split
 ·rfl
 ·simp only[Option.map_some,kg]
theorem mJ (hf:FR φ σ ρ) {t:TypeId} {x r:AV} {v:Value} {lo hi mx:Option Operand} (hx:VR φ x v) (e:iR P t x (lo.map (eev σ)) (hi.map (eev σ)) (mx.map (eev σ))=some r) (hk:∀u,VR φ r u->K u):
 da P t v (lo.map ρ.ev) (hi.map ρ.ev) (mx.map ρ.ev) K:=by
 unfold iR at e;split at e
 ·
  rename_i s;obtain⟨rfl,hs⟩:=hx.cr;split at e
  ·rename_i l hh hu hmx el eh;split at e
   ·rename_i hc;injection e with e;subst e;have hmn:mx=none:=by cases mx with|none=>rfl|some y=>cases hmx
    subst hmn;have e1:=fg hf el 0 (fun q=>by subst q;rw[cZ el];rfl);have e2:=fg hf eh ((dU s).size:Int) (fun q=>by subst q;rw[cZ eh,ia]);simp only[da,hu,e1,e2,Option.map_none,Option.isSome_none];refine⟨trivial,trivial,by omega,by omega,by rw[ia];omega,?_⟩;rw[Int.toNat_natCast,Int.toNat_natCast,yI];exact hk _ (.str fun x hx=>hs x (List.mem_of_mem_drop (List.mem_of_mem_take hx)))
   ·cases e
  ·cases e
 ·
  rw[hx.cP];split at e
  ·rename_i el l hh m hu el' eh em;split at e
   ·rename_i hc;obtain⟨rfl,rfl,rfl,hmx,hsz⟩:=hc;injection e with e;subst e;obtain⟨k,hsz⟩:=Option.isSome_iff_exists.1 hsz;have e1:=fg hf el' 0 (fun q=>rfl);have e2:=fg hf eh ((0:Nat):Int) (fun q=>rfl);have e3:=fg hf em ((0:Nat):Int) (fun q=>rfl)
    (try simp only[da,hu,hsz,e1,e2,e3])
    rw[isSome_map,isSome_map]at hmx;refine⟨by rw[isSome_map,isSome_map];exact hmx,by omega,by omega,?_,by omega,hk _ ?_⟩
    ·unfold uv;split
     ·trivial
     ·omega
    ·exact .nsl
   ·cases e
  ·cases e
 ·
  rename_i b;obtain⟨p,x,C,hp,rfl,hx1,hx2⟩:=hx.jU;split at e
  ·rename_i el l hh hu hmx el' eh;split at e
   ·rename_i hc;obtain⟨rfl,rfl,hsz⟩:=hc;injection e with e;subst e;obtain⟨k,hsz⟩:=Option.isSome_iff_exists.1 hsz;have hmn:mx=none:=by cases mx with|none=>rfl|some y=>cases hmx
    subst hmn;have e1:=fg hf el' 0 (fun q=>rfl);have e2:=fg hf eh ((0:Nat):Int) (fun q=>rfl);simp only[da,hu,hsz,e1,e2,Option.map_none,uM,Option.isSome_none];refine⟨fun q=>(Bool.false_ne_true q).elim,by omega,by omega,?_,by omega,hk _ ?_⟩
    ·unfold uv;split
     ·trivial
     ·omega
    ·show VR φ (.esl b) (iw (some ⟨p.B,x,none⟩) 0 0 C k);rw[jV,Nat.zero_mul,Nat.add_zero,ite_self];exact .esl hp hx1 hx2
   ·cases e
  ·cases e
 ·
  rename_i b o m c k;obtain⟨p,C,hp,rfl,hC0,hC1⟩:=hx.eo;split at e
  ·rename_i el hu;split at e
   ·rename_i es l hh mm hs el' eh em;split at e
    ·rename_i hc;obtain⟨h1,h2,h3⟩:=hc;have e1:=fg hf el' 0 (fun q=>by subst q;rw[cZ el'];rfl);have e2:=fg hf eh (m:Int) (fun q=>by subst q;rw[cZ eh])
     have hcC:c<=C:=by
      by_cases q:k=0
      ·rw[hC0 q];omega
      ·exact(hC1 q).1
     have ups:∀M:Int,(hh:Int)<=M->uv (hi.map ρ.ev) (hh:Int) M:=fun M hM=>by
      unfold uv;split
      ·trivial
      ·exact hM
     have exact_:(mx.isSome=true->hi.isSome=true)->(mx=none->mm=C)->K (.slice (some ⟨p.B,p.s+(if mm=l then o else o+l*es),none⟩) (hh-l) (mm-l))->da P t (.slice (some ⟨p.B,p.s+o,none⟩) m C) (lo.map ρ.ev) (hi.map ρ.ev) (mx.map ρ.ev) K:=fun hmx hmc hK=>by
      have e3:=fg hf em (C:Int) (fun q=>by rw[hmc q])
      (try simp only[da,hu,hs,e1,e2,e3])
      refine⟨by rw[isSome_map,isSome_map];exact hmx,by omega,by omega,ups _ (by omega),by omega,?_⟩;rw[Int.toNat_natCast,Int.toNat_natCast,Int.toNat_natCast,jV];have:(if mm=l then p.s+o else p.s+o+l*es)=p.s+(if mm=l then o else o+l*es):=by split<;>omega
      rw[this];exact hK
     split at e
     ·rename_i hmx;have hmn:mx=none:=by cases mx with|none=>rfl|some y=>cases hmx
      subst hmn;have hm:=cZ em;injection e with e;subst e;exact exact_ (fun q=>by cases q) (fun _=>by rw[hm,hC0 rfl]) (hk _ (.sl hp (fun _=>rfl) (fun q=>(q rfl).elim)))
     ·rename_i y hmx;split at e
      ·rename_i hhi;injection e with e;subst e;rw[isSome_map]at hhi;have hmn:mx≠none:=fun q=>by subst q;cases hmx
       exact exact_ (fun _=>hhi) (fun q=>(hmn q).elim) (hk _ (.sl hp (fun _=>rfl) (fun q=>(q rfl).elim)))
      ·cases e
     ·rename_i k' hmx;have hmn:mx=none:=by cases mx with|none=>rfl|some y=>cases hmx
      subst hmn;obtain⟨_,hT⟩:=hC1 (by omega);split at e
      ·rename_i hes;subst hes;have hm:=cZ em
       have red:K (iw (some ⟨p.B,p.s+o,none⟩) l hh C (k'+1))->da P t (.slice (some ⟨p.B,p.s+o,none⟩) m C) (lo.map ρ.ev) (hi.map ρ.ev) (Option.map ρ.ev none) K:=fun hK=>by
        simp only[da,hu,hs,e1,e2,Option.map_none,uM];refine⟨(fun q=>by cases q),by omega,by omega,ups _ (by omega),by omega,?_⟩;rw[Int.toNat_natCast,Int.toNat_natCast,Int.toNat_natCast];exact hK
       refine red ?_;rw[jV];split at e
       ·rename_i hl;injection e with e;subst e
        have e4:(if C=l then p.s+o else p.s+o+l*(k'+1))=p.s+(o+l*(k'+1)):=by
         split
         ·rename_i q;have:l=0:=by omega
          subst this;omega
         ·omega
        rw[e4];refine hk _ (.sl hp (fun q=>by omega) (fun _=>⟨by omega,?_⟩))
        have:l*(k'+1)+(C-l)*(k'+1)=C*(k'+1):=by
         rw[<-Nat.add_mul];congr 1;omega
        rw[Nat.add_assoc,this];exact hT
       ·rename_i hl;injection e with e;subst e;have:hh-l=0:=by omega
        have hlc:l=c:=by omega
        have hck:l*(k'+1)<=C*(k'+1):=Nat.mul_le_mul_right _ (by omega);rw[this];exact hk _ (.esl hp (by split<;>omega) (by rw[show C*(k'+1)=C*k'.succ from rfl]at hck;split<;>omega))
      ·cases e
     ·rename_i y hmx;split at e
      ·rename_i hhi;injection e with e;subst e;rw[isSome_map]at hhi;have hmn:mx≠none:=fun q=>by subst q;cases hmx
       exact exact_ (fun _=>hhi) (fun q=>(hmn q).elim) (hk _ (.sl hp (fun _=>rfl) (fun q=>(q rfl).elim)))
      ·cases e
    ·cases e
   ·cases e
  ·cases e
 ·cases e
theorem mK {place:Nat->Option (Nat×Nat)}:∀(ps:List (Nat×Operand)) (cells r:List AV) (c:Array Value),FR φ σ ρ->VRs φ cells c.toList->xf place cells (ps.map fun x=>(x.1,eev σ x.2))=some r->
 ∃r',qo place c (ps.map fun x=>(x.1,ρ.ev x.2))=some r'/\VRs φ r r'.toList
 | [],cells,r,c,_,hc,e=>by
  injection e with e;subst e;exact⟨c,rfl,hc⟩
 |x::ps,cells,r,c,hf,hc,e=>by
  simp only[List.map_cons,xf]at e;split at e
  ·cases e
  ·rename_i off size hp;split at e
   ·rename_i c2 hb hset;simp only[Bool.and_eq_true]at hb;have hlen:=Nat.eq_of_beq_eq_true hb.1;have hv:=(hf.ev x.2).cells hb.2.1;have hle:=Nat.le_of_ble_eq_true hb.2.2;have hl:=hv.length;obtain⟨g1,g2,g3⟩:=gZ _ _ _ _ hset;have hcl:=hc.length;have hcs:cells.length=c.size:=by simpa using hcl
    have hset2:=(hc.VK).set hset hv (by omega);rw[Nat.zero_add]at hset2;have:=hset2.Ty (by rw[eI];omega);obtain⟨r',h1,h2⟩:=mK ps c2 r _ hf this e;refine⟨r',?_,h2⟩;simp only[List.map_cons,qo,hp];have hsz:x.2=x.2:=rfl
    have h3:(ρ.ev x.2).cells.size=size:=by rw[<-hlen,hl,Array.length_toList]
    rw[if_pos ⟨h3,by omega⟩];exact h1
   ·cases e
theorem AP (hf:FR φ σ ρ) {t:TypeId} {ps:Array (Nat×Operand)} {r:List AV} (e:Dj P t (ps.toList.map fun x=>(x.1,eev σ x.2))=some r):
 ∃r',oD P t (ps.toList.map fun x=>(x.1,ρ.ev x.2))=some r'/\VRs φ r r'.toList:=by
 unfold Dj at e;unfold oD;split at e
 ·rename_i z hz
  (try simp only[hz])
  split at e
  ·rename_i fs hu
   (try simp only[hu])
   split at e
   ·rename_i hall;rw[if_pos hall];exact mK _ _ _ _ hf (lK φ z) e
   ·cases e
  ·rename_i m el hu
   (try simp only[hu])
   split at e
   ·rename_i s hs
    (try simp only[hs])
    exact mK _ _ _ _ hf (lK φ z) e
   ·cases e
  ·cases e
 ·cases e
theorem rS {z:List AV} {zs:List Value} (hz:VRs φ z zs):∀m,VRs φ (iB z m) (cI zs m)
 |0=> .nil
 |m+1=>hz.append (rS hz m)
theorem yL (hf:FR φ σ ρ) {t:TypeId} {len:Nat} {ps:Array (Nat×Operand)} {r:List AV} (e:yF P t len (ps.toList.map fun x=>(x.1,eev σ x.2))=some r):
 ∃el r',dB P t len (ps.toList.map fun x=>(x.1,ρ.ev x.2))=some (el,r')/\VRs φ r r'.toList:=by
 unfold yF at e;unfold dB;split at e
 ·rename_i el hu
  (try simp only[hu])
  split at e
  ·rename_i s z hs hz
   (try simp only[hs,hz])
   split at e
   ·rename_i hc;rw[if_pos hc];obtain⟨r',h1,h2⟩:=mK ps.toList _ _ (cI z.cells.toList len).toArray hf (by simpa using rS (lK φ z) len) e;exact⟨el,r',by rw[h1];rfl,h2⟩
   ·cases e
  ·cases e
 ·cases e
theorem uR:∀{xs ys:List AV} {vs us:List Value},VRs φ xs vs->VRs φ ys us->uJ xs ys=some true->vs=us/\∀n,((vs.zip us).all fun(x,y)=>Instr.sameBits n x y)=true
 | [],[],vs,us,h1,h2,_=>by rw[h1.aM,h2.aM];exact⟨rfl,fun _=>rfl⟩
 | [],y::ys,_,_,_,_,e=>by simp[uJ]at e
 |x::xs,[],_,_,_,_,e=>by cases x<;>simp[uJ]at e
 |x::xs,y::ys,vs,us,h1,h2,e=>by
  unfold uJ at e;split at e
  ·rename_i e1 e2;cases e1
  ·rename_i a xs' b ys' e1 e2;injection e1 with e1 e3;injection e2 with e2 e4;subst e1 e2 e3 e4;obtain⟨v,vs',rfl,g1,g2⟩:=h1.cons_inv;obtain⟨u,us',rfl,g3,g4⟩:=h2.cons_inv;simp only[Option.map_eq_some_iff,Bool.and_eq_true]at e;obtain⟨q,e5,e6,rfl⟩:=e;obtain⟨rfl,i1⟩:=g1.cr;obtain⟨rfl,i2⟩:=g3.cr;obtain⟨e7,e8⟩:=uR g2 g4 e5
   have:dU a=dU b:=by
    rw[lJ a b i1 i2]at e6;have:=beq_iff_eq.1 e6;unfold dU;rw[this]
   rw[this,e7];refine⟨rfl,fun n=>?_⟩;have e8:=e8 n;rw[e7]at e8;simp only[List.zip_cons_cons,List.all_cons,e8,Bool.and_true];simp[Instr.sameBits,bytes_beq]
  ·cases e
theorem uS {kd:TypeDesc} {a b:AV} {v u:Value} {q:Bool} (ha:VR φ a v) (hb:VR φ b u) (e:AG kd a b=some q):nA kd v u=some q:=by
 unfold AG at e;split at e
 ·rename_i k m k' m';rw[ha.bV,hb.bV];split at e
  ·rename_i hk;injection e with e;subst e;rw[nC rfl];simp only[Instr.sameNow];rw[if_pos hk];congr 1
  ·cases e
 ·rename_i s r;obtain⟨rfl,h1⟩:=ha.cr;obtain⟨rfl,h2⟩:=hb.cr;injection e with e;subst e;rw[nC rfl];simp only[Instr.sameNow];congr 1;rw[lJ s r h1 h2,Bool.eq_iff_iff,bytes_beq,beq_iff_eq];constructor
  ·intro q;have:=congrArg ByteArray.toList q;rwa [cS,cS]at this
  ·intro q;unfold dU;rw[q]
 ·rename_i fs xs ys;obtain⟨cs,rfl,h1⟩:=ha.dC;obtain⟨ds,rfl,h2⟩:=hb.dC;split at e
  ·rename_i p q' ep es;split at e
   ·rename_i hpq;injection e with e;subst hpq e;have h3:=iS h1 h2 _ _ ep;unfold nA;dsimp only;rw[h3];cases p with
    |false=>rfl
    |true=>
     obtain⟨h4,h5⟩:=uR h1 h2 es;have h6:cs=ds:=Array.toList_inj.1 h4;subst h6
     have h7:Instr.sameBits 10000 (.agg cs) (.agg cs)=true:=by
      show(cs.size==cs.size&&(cs.toList.zip cs.toList).all fun(x,y)=>Instr.sameBits 9999 x y)=true;rw[h5 9999];simp
     dsimp only;rw[if_pos h7]
   ·cases e
  ·cases e
 ·cases e
theorem gJ {kd:TypeDesc} {k:AV} {v:Value} (hk:VR φ k v):∀(es:List (AV×AV)) (ms:List MapEntry) (i:Nat) (r:Option (Nat×AV)),MR φ es ms->lH kd k es i=some r->
 ∃r',gv kd v ms i=some r'/\(match r,r' with
  |none,none=>True
  |some (j,a),some (j',u)=>j=j'/\VR φ a u
  |_,_=>False)
 | [],ms,i,r,hm,e=>by
  unfold lH at e;split at e
  ·rename_i ho;injection e with e;subst e;rw[show ms=[] from hm]
   have:qq kd v=true:=by
    unfold qq;unfold yD at ho;split at ho
    ·rename_i fs xs;obtain⟨cs,rfl,g1⟩:=hk.dC;obtain⟨r,hr⟩:=Option.isSome_iff_exists.1 ho;dsimp only;rw[iS g1 g1 _ _ hr];rfl
    ·cases ho
    ·rename_i h1 h2;cases kd<;>first|rfl|exact(h1 _ rfl).elim|exact(h2 _ rfl).elim
   exact⟨none,by simp only[gv,this],trivial⟩
  ·cases e
 |x::es,ms,i,r,⟨m,us,h1,h2,h3,h4⟩,e=>by
  subst h1;unfold lH at e;split at e
  ·rename_i hs;injection e with e;subst e;have:=uS hk h2 hs;refine⟨some (i,m.val),by simp only[gv,this],rfl,h3⟩
  ·rename_i hs;have:=uS hk h2 hs;obtain⟨r',g1,g2⟩:=gJ hk es us (i+1) r h4 e;exact⟨r',by simp only[gv,this,g1],g2⟩
  ·cases e
theorem gB (hr:HR φ H n h0 h) {t:TypeId} {m k r:AV} {ok:Bool} {mv kv:Value} (hm:VR φ m mv) (hk':VR φ k kv) (e:jj P t m k ok H=some r) (hk:∀u,VR φ r u->K u):fo P t mv kv ok h K:=by
 have main:∀(b:Nat) (p:Pl) (kt et:TypeId) (kd:TypeDesc) (es:List (AV×AV)) (ms:Array MapEntry) (cl:Nat),dq P t=some (kt,kd,et)->mv= .map (some p.B)->h.f p.B=some (.map ms cl)->MR φ es ms.toList->rL P kd et k ok es=some r->fo P t mv kv ok h K:=fun b p kt et kd es ms cl hmk hmv hf h1 e=>by
  subst hmv
  have fin:∀{q},lH kd k es 0=some q->∃q',gv kd kv ms.toList 0=some q'/\jT P t (.map (some p.B)) kv ok h=found (cL P et) ok q'/\(match q,q' with
   |none,none=>True
   |some (j,a),some (j',u)=>j=j'/\VR φ a u
   |_,_=>False):=fun{q} hq=>by
   obtain⟨q',g1,g2⟩:=gJ hk' es ms.toList 0 q h1 hq;refine⟨q',g1,?_,g2⟩;simp only[jT,hmk,Option.bind_some,rE,hf,g1]
  unfold rL at e;split at e
  ·rename_i j a hq;obtain⟨q',g1,g2,g3⟩:=fin hq;cases q' with
   |none=>exact g3.elim
   |some x=>
    obtain⟨j',u⟩:=x;obtain⟨_,g3⟩:=g3;injection e with e;subst e
    (try simp only[fo,g2,found])
    cases ok
    ·exact hk _ g3
    ·exact hk _ (.tup (cs:= #[u,.bool true]) (.cons g3 (.cons (.bool _) .nil)))
  ·rename_i hq;obtain⟨q',g1,g2,g3⟩:=fin hq;cases q' with
   |some x=>exact g3.elim
   |none=>
    split at e
    ·rename_i z hz;injection e with e;subst e;simp only[fo,g2,found,hz,Option.map_some];cases ok
     ·exact hk _ (oF z)
     ·exact hk _ (.tup (cs:= #[z,.bool false]) (.cons (oF z) (.cons (.bool _) .nil)))
    ·cases e
  ·cases e
 unfold jj at e;split at e
 ·rename_i b kt kd et hmk;obtain⟨p,hp,rfl⟩:=hm.kZ;split at e
  ·rename_i es hb;obtain⟨ob,hB,hf,ms,cl,rfl,h1,_⟩:=hr.of hb hp;exact main b p kt et kd es ms cl hmk rfl hf h1 e
  ·rename_i es bs cl hb;obtain⟨ob,hB,hf,ms,rfl,h1,_⟩:=hr.of hb hp;exact main b p kt et kd es ms cl hmk rfl hf h1 e
  ·cases e
 ·cases e
theorem s7 (hr:HR φ H n h0 h) (hf:FR φ σ ρ) {o:Op} {r:AV} (e:qy P o σ H=some r) (hk:∀u,VR φ r u->K u):de P o ρ h K:=by
 unfold qy at e;split at e
 ·rename_i x;injection e with e;subst e;exact hk _ (hf.ev x)
 ·rename_i x;injection e with e;subst e;exact hk _ (hf.ev x)
 ·rename_i c a b;have hc:=hf.ev c
  (try simp only[de])
  split at e
  ·rename_i q;rw[q]at hc;rw[hc.bQ];injection e with e;subst e;exact hk _ (hf.ev a)
  ·rename_i q;rw[q]at hc;rw[hc.bQ];injection e with e;subst e;exact hk _ (hf.ev b)
  ·cases e
 ·rename_i t parts;simp only[Option.map_eq_some_iff]at e;obtain⟨l,e1,rfl⟩:=e;obtain⟨r',h1,h2⟩:=AP hf e1
  (try simp only[de,h1])
  exact hk _ (.agg h2)
 ·exact nM hr (hf.ev _) e hk
 ·rename_i x;have hx:=hf.ev x
  (try simp only[de])
  split at e
  ·rename_i b o q;rw[q]at hx;obtain⟨p,hp,hv⟩:=hx.ct;injection e with e;subst e;rw[hv];exact hk _ (.ptr hp)
  ·rename_i f a c q;rw[q]at hx;obtain⟨a',c',hv,h1,h2⟩:=hx.mF;injection e with e;subst e;rw[hv];exact hk _ (.fn h1 h2)
  ·cases e
 ·exact mH hr (hf.ev _) (hf.ev _) e hk
 ·exact xj (hf.ev _) e hk
 ·rename_i f first captured
  injection e with e;subst e;refine hk _ (.fn ?_ ?_)
  ·rw[Array.toList_map];exact VRs.map hf.ev _
  ·rw[Array.toList_map];exact VRs.map hf.ev _
 ·exact mJ hf (hf.ev _) e hk
 ·exact rP (hf.ev _) e hk
 ·exact yJ (hf.ev _) e hk
 ·exact rQ (hf.ev _) (hf.ev _) e hk
 ·exact yK (hf.ev _) (hf.ev _) e hk
 ·exact uQ (hf.ev _) e hk
 ·exact gB hr (hf.ev _) (hf.ev _) e hk
 ·rename_i c;have hm:=VRs.map hf.ev c.args.toList
  (try simp only[de])
  split at e
  ·rename_i t x e1 e2 e3;rw[e3]at hm;obtain⟨v,us,h1,h2,h3⟩:=hm.cons_inv;rw[h3.aM]at h1
   (try simp only[e1,e2,h1,dk])
   exact mI hr h2 e hk
  ·rename_i x y e1 e3;rw[e3]at hm;obtain⟨v,us,h1,h2,h3⟩:=hm.cons_inv;obtain⟨u,ws,h4,h5,h6⟩:=h3.cons_inv;rw[h4,h6.aM]at h1
   (try simp only[e1,h1,dk])
   exact rR h2 h5 e hk
  ·rename_i x y e1 e3;rw[e3]at hm;obtain⟨v,us,h1,h2,h3⟩:=hm.cons_inv;obtain⟨u,ws,h4,h5,h6⟩:=h3.cons_inv;rw[h4,h6.aM]at h1
   (try simp only[e1,h1,dk])
   exact rR h2 h5 e hk
  ·cases e
 ·cases e
end
end Go.Proofs.YtflehenfikoniaaGreat
