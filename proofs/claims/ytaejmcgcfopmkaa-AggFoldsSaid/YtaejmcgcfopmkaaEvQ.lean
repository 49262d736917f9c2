/- The quick machine: the machine of our own, laid out so that the kernel runs it fast: what follows an operation is handed on. -/
import Derived.Test.YtaejmcgcfopmkaaEvG
namespace Go.Proofs.Ytaejmcgcfopmkaa
open Go Go.RowKit
abbrev KA := AV → AH → Nat → AR
abbrev CQ := FuncId → List AV → AH → Nat → KA → AR

/-! ### slots -/
noncomputable def evq (x : Operand) : AE → AV :=
  Operand.rec (fun t σ => getq (pa t) σ) (fun v _ => ofV v) (fun g _ => .any (.pointer (some ⟨g, 0, none⟩))) (fun f _ => .fn f [] []) x
noncomputable def evsq (l : List Operand) : AE → List AV := List.rec (fun _ => []) (fun x _ ih σ => evq x σ :: ih σ) l

/-! ### looks at a value -/
noncomputable def boolq (a : AV) : (Bool → AR) → AR := AV.rec (motive_1 := fun _ => (Bool → AR) → AR) (motive_2 := fun _ => Unit)
  (fun _ _ _ => none) (fun _ _ => none) (fun b k => k b) (fun _ => none) (fun _ _ _ => none) (fun _ => none) (fun _ _ _ _ _ _ => none) (fun _ _ => none) (fun _ _ _ => none) (fun _ _ _ => none) (fun _ _ _ _ _ _ => none) (fun _ _ => none) (fun _ _ => none) (fun _ => none) (fun _ _ _ => none) (fun _ _ => none) (fun _ _ => none) (fun _ _ _ _ _ _ => none) () (fun _ _ _ _ => ()) a
noncomputable def intq (a : AV) : (IntKind → Int → AR) → AR → AR := AV.rec (motive_1 := fun _ => (IntKind → Int → AR) → AR → AR) (motive_2 := fun _ => Unit)
  (fun i n k _ => k i n) (fun _ _ s => s) (fun _ _ s => s) (fun _ s => s) (fun _ _ _ s => s) (fun _ s => s) (fun _ _ _ _ _ _ s => s) (fun _ _ s => s) (fun _ _ _ s => s) (fun _ _ _ s => s) (fun _ _ _ _ _ _ s => s) (fun _ _ s => s) (fun _ _ s => s) (fun _ s => s) (fun _ _ _ s => s) (fun _ _ s => s) (fun _ _ s => s) (fun _ _ _ _ _ _ s => s) () (fun _ _ _ _ => ()) a
noncomputable def ptrq (a : AV) : (Nat → Nat → AR) → AR := AV.rec (motive_1 := fun _ => (Nat → Nat → AR) → AR) (motive_2 := fun _ => Unit)
  (fun _ _ _ => none) (fun _ _ => none) (fun _ _ => none) (fun _ => none) (fun b o k => k b o) (fun _ => none) (fun _ _ _ _ _ _ => none) (fun _ _ => none) (fun _ _ _ => none) (fun _ _ _ => none) (fun _ _ _ _ _ _ => none) (fun _ _ => none) (fun _ _ => none) (fun _ => none) (fun _ _ _ => none) (fun _ _ => none) (fun _ _ => none) (fun _ _ _ _ _ _ => none) () (fun _ _ _ _ => ()) a
noncomputable def tupq (a : AV) : (List AV → AR) → AR := AV.rec (motive_1 := fun _ => (List AV → AR) → AR) (motive_2 := fun _ => Unit)
  (fun _ _ _ => none) (fun _ _ => none) (fun _ _ => none) (fun _ => none) (fun _ _ _ => none) (fun _ => none) (fun _ _ _ _ _ _ => none) (fun _ _ => none) (fun _ _ _ => none) (fun l _ k => k l) (fun _ _ _ _ _ _ => none) (fun _ _ => none) (fun _ _ => none) (fun _ => none) (fun _ _ _ => none) (fun _ _ => none) (fun _ _ => none) (fun _ _ _ _ _ _ => none) () (fun _ _ _ _ => ()) a
noncomputable def fnq (a : AV) : (Nat → List AV → List AV → AR) → AR := AV.rec (motive_1 := fun _ => (Nat → List AV → List AV → AR) → AR) (motive_2 := fun _ => Unit)
  (fun _ _ _ => none) (fun _ _ => none) (fun _ _ => none) (fun _ => none) (fun _ _ _ => none) (fun _ => none) (fun _ _ _ _ _ _ => none) (fun _ _ => none) (fun _ _ _ => none) (fun _ _ _ => none) (fun f a c _ _ k => k f a c) (fun _ _ => none) (fun _ _ => none) (fun _ => none) (fun _ _ _ => none) (fun _ _ => none) (fun _ _ => none) (fun _ _ _ _ _ _ => none) () (fun _ _ _ _ => ()) a
noncomputable def cellsq (o : Option AO) : (List AV → Bool → AR) → AR := Option.rec (fun _ => none) (fun o => AO.rec (fun l z k => k l z) (fun _ _ => none) (fun _ _ => none) o) o
noncomputable def optq {α : Type} (o : Option α) : (α → AR) → AR := Option.rec (fun _ => none) (fun a k => k a) o
noncomputable def bifq (b : Bool) : AR → AR → AR := Bool.rec (fun _ e => e) (fun t _ => t) b
noncomputable def nthq {α : Type} (l : List α) : Nat → (α → AR) → AR := List.rec (fun _ _ => none) (fun x _ ih n k => Nat.rec (k x) (fun m _ => ih m k) n) l

/-! ### numbers -/
noncomputable def kindq (k j : IntKind) : Bool := IntKind.rec (IntKind.rec true false false false false false false false j) (IntKind.rec false true false false false false false false j) (IntKind.rec false false true false false false false false j) (IntKind.rec false false false true false false false false j)
  (IntKind.rec false false false false true false false false j) (IntKind.rec false false false false false true false false j) (IntKind.rec false false false false false false true false j) (IntKind.rec false false false false false false false true j) k
noncomputable def ltq (a b : Int) : Bool := Int.rec (fun m => Int.rec (fun n => Nat.blt m n) (fun _ => false) b) (fun m => Int.rec (fun _ => true) (fun n => Nat.blt n m) b) a
noncomputable def eqq (a b : Int) : Bool := Int.rec (fun m => Int.rec (fun n => Nat.beq m n) (fun _ => false) b) (fun m => Int.rec (fun _ => false) (fun n => Nat.beq m n) b) a
noncomputable def notq (b : Bool) : Bool := Bool.rec true false b
noncomputable def w64q (x : Int) : Int := Int.rec (fun m => Bool.rec (IntKind.i64.wrap (.ofNat m)) (.ofNat m) (Nat.blt m 9223372036854775808)) (fun m => Bool.rec (IntKind.i64.wrap (.negSucc m)) (.negSucc m) (Nat.blt m 9223372036854775808)) x
noncomputable def u64q (x : Int) : Int := Int.rec (fun m => Bool.rec (IntKind.u64.wrap (.ofNat m)) (.ofNat m) (Nat.blt m 18446744073709551616)) (fun m => IntKind.u64.wrap (.negSucc m)) x
noncomputable def u8q (x : Int) : Int := Int.rec (fun m => Bool.rec (IntKind.u8.wrap (.ofNat m)) (.ofNat m) (Nat.blt m 256)) (fun m => IntKind.u8.wrap (.negSucc m)) x
noncomputable def wrapq (k : IntKind) : Int → Int := IntKind.rec IntKind.i8.wrap IntKind.i16.wrap IntKind.i32.wrap w64q u8q IntKind.u16.wrap IntKind.u32.wrap u64q k
noncomputable def slowI (op : BinOp) (k j : IntKind) (a b : Int) (κ : AV → AR) : AR := optq (eint op k j a b) κ
noncomputable def addq (k j : IntKind) (a b : Int) (κ : AV → AR) : AR := bifq (kindq k j) (κ (.int k (wrapq k (Int.add a b)))) none
noncomputable def subq (k j : IntKind) (a b : Int) (κ : AV → AR) : AR := bifq (kindq k j) (κ (.int k (wrapq k (Int.sub a b)))) none
noncomputable def cmpq (f : Int → Int → Bool) (k j : IntKind) (a b : Int) (κ : AV → AR) : AR := bifq (kindq k j) (κ (.bool (f a b))) none
noncomputable def intopq (op : BinOp) : IntKind → IntKind → Int → Int → (AV → AR) → AR :=
  BinOp.rec (motive := fun _ => IntKind → IntKind → Int → Int → (AV → AR) → AR) addq subq (slowI .mul) (slowI .quo) (slowI .rem) (slowI .and) (slowI .or) (slowI .xor) (slowI .shl) (slowI .shr) (slowI .andNot)
    (cmpq eqq) (cmpq fun a b => notq (eqq a b)) (cmpq ltq) (cmpq fun a b => notq (ltq b a)) (cmpq fun a b => ltq b a) (cmpq fun a b => notq (ltq a b)) op

/-! ### operations -/
noncomputable def noCall : AC := fun _ _ _ _ => none
abbrev SQ := CQ → AE → AH → Nat → KA → AR
noncomputable def pairK (κ : KA) (r : AV × AH × Nat) : AR := Prod.rec (fun v p => Prod.rec (fun H n => κ v H n) p) r
noncomputable def slowS (o : Op) : SQ := fun _ σ H n κ => optq (estep Try.prog noCall o σ H n) (pairK κ)
noncomputable def moveS (x : Operand) : SQ := fun _ σ H n κ => κ (evq x σ) H n
noncomputable def pickS (c a b : Operand) : SQ := fun _ σ H n κ => boolq (evq c σ) fun q => Bool.rec (κ (evq b σ) H n) (κ (evq a σ) H n) q
/-- 0: it can't be read; 1: one cell; n + 2: n cells. -/
noncomputable def loadKind (t : TypeId) : Nat := match tyAgg Try.prog t with
  | some false => 1
  | some true => (match tySize Try.prog t with
    | some n => n + 2
    | none => 0)
  | none => 0
noncomputable def loadL (l : List AV) (o : Nat) (k : Nat) (κ : AV → AR) : AR := Nat.rec none (fun k' _ => Nat.rec (nthq l o κ) (fun m _ => optq (subL l o m) fun r => κ (.agg r)) k') k
noncomputable def loadS (t : TypeId) (a : Operand) : SQ := fun _ σ H n κ => ptrq (evq a σ) fun b o => cellsq (H.get b) fun l _ => loadL l o (loadKind t) fun v => κ v H n
/-- One cell, of a value that may be laid. -/
noncomputable def cellOneq (a : AV) : Bool := AV.rec (motive_1 := fun _ => Bool) (motive_2 := fun _ => Unit)
  (fun _ _ => true) (fun _ => true) (fun _ => true) true (fun _ _ => true) true (fun _ _ _ _ _ => true) (fun _ => true) (fun _ _ => false) (fun _ _ => false) (fun _ _ _ _ _ => true) (fun _ => true) (fun _ => false) false (fun _ _ => false) (fun _ => false) (fun _ => false) (fun _ _ _ _ _ => false) () (fun _ _ _ _ => ()) a
noncomputable def set1q (l : List AV) : Nat → AV → (List AV → AR) → AR := List.rec (fun _ _ _ => none) (fun y t ih o v k => Nat.rec (k (v :: t)) (fun m _ => ih m v fun r => k (y :: r)) o) l
noncomputable def sizeOne (t : TypeId) : Bool := match tySize Try.prog t with
  | some 1 => true
  | _ => false
noncomputable def storeS (t : TypeId) (a x : Operand) : SQ := fun _ σ H n κ => Bool.rec (optq (estore Try.prog t (evq a σ) (evq x σ) H n) (pairK κ))
  (ptrq (evq a σ) fun b o => cellsq (H.get b) fun l z => set1q l o (evq x σ) fun r => κ undefA (H.set (some (.cells r z)) depthH b) n) (Bool.rec false (cellOneq (evq x σ)) (sizeOne t))
noncomputable def nilQ (a : AV) : (AV → AR) → AR := AV.rec (motive_1 := fun _ => (AV → AR) → AR) (motive_2 := fun _ => Unit)
  (fun _ _ _ => none) (fun _ _ => none) (fun _ _ => none) (fun _ => none) (fun b o k => k (.ptr b o)) (fun _ => none) (fun _ _ _ _ _ _ => none) (fun _ _ => none) (fun _ _ _ => none) (fun _ _ _ => none) (fun f a c _ _ k => k (.fn f a c)) (fun _ _ => none) (fun _ _ => none) (fun _ => none) (fun _ _ _ => none) (fun _ _ => none) (fun _ _ => none) (fun _ _ _ _ _ _ => none) () (fun _ _ _ _ => ()) a
noncomputable def nilS (x : Operand) : SQ := fun _ σ H n κ => nilQ (evq x σ) fun v => κ v H n
noncomputable def binS (op : BinOp) (t : TypeId) (x y : Operand) (_ : TypeId) : SQ := fun _ σ H n κ => intq (evq x σ) (fun k a => intq (evq y σ) (fun j b => intopq op k j a b fun v => κ v H n) none) (optq (ebin Try.prog op t (evq x σ) (evq y σ) H) fun v => κ v H n)
noncomputable def unS (op : UnOp) (_ : TypeId) (x : Operand) : SQ := fun _ σ H n κ => optq (eun op (evq x σ)) fun v => κ v H n
noncomputable def fieldAddrS (s : TypeId) (x : Operand) (i : Nat) : SQ := fun _ σ H n κ => ptrq (evq x σ) fun b o => optq (tyField Try.prog s i) fun p => κ (.ptr b (Nat.add o p.2)) H n
noncomputable def indexAddrS (t : TypeId) (x ix : Operand) : SQ := fun _ σ H n κ => optq (eindexAddr Try.prog t (evq x σ) (evq ix σ)) fun v => κ v H n
noncomputable def extractS (x : Operand) (i : Nat) : SQ := fun _ σ H n κ => tupq (evq x σ) fun l => nthq l i fun v => κ v H n
noncomputable def callV (args : Array Operand) (f : Operand) : SQ := fun call σ H n κ => fnq (evq f σ) fun g a cs => call g (a ++ (evsq args.toList σ ++ cs)) H n κ
noncomputable def callS (c : Call) : SQ := Callee.rec (fun f => callV c.args f) (fun _ _ => fun _ _ _ _ _ => none) (fun _ => slowS (.call c)) c.callee
noncomputable def stepq (o : Op) : SQ := Op.rec (motive := fun _ => SQ)
  moveS
  moveS
  pickS
  (fun a => slowS (.alloc a))
  (fun a b => slowS (.box a b))
  (fun a b => slowS (.build a b))
  (fun a b c => slowS (.buildSlice a b c))
  (fun a b c d => slowS (.insert a b c d))
  loadS
  storeS
  (fun a => slowS (.ready a))
  (fun a => slowS (.waits a))
  nilS
  binS
  unS
  (fun a b c => slowS (.convert a b c))
  (fun a b => slowS (.sliceToArrayPointer a b))
  (fun a b => slowS (.makeInterface a b))
  (fun a b c => slowS (.makeFunc a b c))
  (fun a b => slowS (.makeMap a b))
  (fun a b => slowS (.makeChan a b))
  (fun a b c => slowS (.makeSlice a b c))
  (fun a b c d e => slowS (.slice a b c d e))
  fieldAddrS
  (fun a b c => slowS (.field a b c))
  indexAddrS
  (fun a b c => slowS (.index a b c))
  (fun a b c d => slowS (.lookup a b c d))
  (fun a b c d => slowS (.mapUpdate a b c d))
  (fun a b c => slowS (.mapEntry a b c))
  (fun a b c d => slowS (.entryStore a b c d))
  (fun a b => slowS (.range a b))
  (fun a b => slowS (.next a b))
  (fun a => slowS (.entry a))
  (fun a b c d => slowS (.typeAssert a b c d))
  extractS
  callS
  (fun a => slowS (.go a))
  (fun a => slowS (.defer a))
  (fun a => slowS (.panic a))
  (fun a b => slowS (.send a b))
  (fun a b c => slowS (.recv a b c))
  (fun a b => slowS (.select a b)) o

/-! ### regions, code, functions -/
abbrev KS := AE → AH → Nat → AR
noncomputable def doq (o : Op) (d : Option Nat) : CQ → AE → AH → Nat → KS → AR := fun call σ H n k => stepq o call σ H n fun v H n => k (putq d v σ) H n
noncomputable def gvalq (a : AV) (want : Bool) : AR → AR → AR := AV.rec (motive_1 := fun _ => AR → AR → AR) (motive_2 := fun _ => Unit)
  (fun _ _ _ _ => none) (fun _ _ _ => none) (fun q d s => Bool.rec (Bool.rec d s want) (Bool.rec s d want) q) (fun _ _ => none) (fun _ _ _ _ => none) (fun _ _ => none) (fun _ _ _ _ _ _ _ => none) (fun _ _ _ => none) (fun _ _ _ _ => none) (fun _ _ _ s => s) (fun _ _ _ _ _ _ _ => none) (fun _ _ _ => none) (fun _ _ _ => none) (fun _ _ => none) (fun _ _ _ _ => none) (fun _ _ _ => none) (fun _ _ _ => none) (fun _ _ _ _ _ _ _ => none) () (fun _ _ _ _ => ()) a
noncomputable def oneq (ops : Array Oper) (o : Oper) : CQ → AE → AH → Nat → KS → AR := Option.rec (doq o.op o.dst)
  (fun g call σ H n k => optq (gslot ops g.1) fun t => gvalq (getq (pa t) σ) g.2 (doq o.op o.dst call σ H n k) (k (putq o.dst undefA σ) H n)) o.guard
noncomputable def opsq (ops : Array Oper) (l : List Oper) : CQ → AE → AH → Nat → KS → AR :=
  List.rec (fun _ σ H n k => k σ H n) (fun o _ ih call σ H n k => oneq ops o call σ H n fun σ H n => ih call σ H n k) l
abbrev XQ := CQ → AE → AH → Nat → KS → (Nat → KS) → KS → AR
noncomputable def condq (c : Operand) (a b : XQ) : XQ := fun call σ H n kn kx kr => boolq (evq c σ) fun q => Bool.rec (b call σ H n kn kx kr) (a call σ H n kn kx kr) q
noncomputable def blockq (id : Nat) (b : XQ) : XQ := fun call σ H n kn kx kr => b call σ H n kn (fun i σ H n => Bool.rec (kx i σ H n) (kn σ H n) (Nat.beq i id)) kr
noncomputable def loopq (b : XQ) (f : Nat) : XQ := Nat.rec (fun _ _ _ _ _ _ _ => none) (fun _ ih call σ H n kn kx kr => b call σ H n (fun σ H n => ih call σ H n kn kx kr) kx kr) f
noncomputable def topq (v : AV) (H : AH) (n : Nat) : AR := some (v, H, n)
noncomputable def callA (call : CQ) : AC := fun f args H n => call f args H n topq
noncomputable def dynq (ops : Array Oper) : XQ := fun call σ H n kn _ _ => optq (edyn Try.prog (callA call) ops σ H n) fun y => kn y.2.1 y.2.2.1 y.2.2.2
noncomputable def execq (c : Code) : XQ := Code.rec (motive := fun _ => XQ)
  (fun _ σ H n kn _ _ => kn σ H n)
  (fun _ ops draw => Bool.rec (fun call σ H n kn _ _ => opsq ops ops.toList call σ H n kn) (Bool.rec (dynq ops) (fun call σ H n kn _ _ => opsq ops ops.toList call σ H n kn) (swapB Try.prog ops)) draw)
  (fun _ _ a b call σ H n kn kx kr => a call σ H n (fun σ H n => b call σ H n kn kx kr) kx kr)
  (fun c _ _ a b => condq c a b)
  (fun id _ b => blockq id b)
  (fun _ b => loopq b fuelE)
  (fun _ _ _ _ _ _ _ _ _ _ _ _ _ => none)
  (fun i _ σ H n _ kx _ => kx i σ H n)
  (fun _ _ _ _ _ _ _ _ _ => none)
  (fun _ _ _ _ _ _ _ _ => none)
  (fun _ _ _ _ _ _ _ _ => none)
  (fun _ σ H n _ _ kr => kr σ H n)
  (fun _ _ _ _ _ _ _ _ => none) c
inductive EQ where
  | no
  | run (c : Code) (rs : List ResultVar) (k : Nat)
  | nat (g : List AV → AH → Nat → KA → AR)
noncomputable def resq (rs : List ResultVar) : AE → AH → (List AV → AR) → AR := List.rec (fun _ _ k => k []) (fun r _ ih σ H k => optq (ResultVar.rec (fun t => some (getq (pa t) σ)) (fun a t => eload Try.prog t (getq (pa a) σ) H) r) fun v => ih σ H fun vs => k (v :: vs)) rs
noncomputable def runq (call : CQ) (c : Code) (rs : List ResultVar) (k : Nat) (args : List AV) (H : AH) (n : Nat) (κ : KA) : AR :=
  Bool.rec none (execq c call (eentry args 0 .nil) H n (fun σ H n => resq rs σ H fun vs => κ (epack vs) H n) (fun _ _ _ _ => none) (fun σ H n => resq rs σ H fun vs => κ (epack vs) H n)) (Nat.ble args.length k)
noncomputable def callq (F : FuncId → EQ) (d : Nat) : CQ := Nat.rec (fun _ _ _ _ _ => none) (fun _ ih f args H n κ => EQ.rec (fun _ _ _ _ => none) (fun c rs k => runq ih c rs k) (fun g => g) (F f) args H n κ) d
/-- What is asked of a function's text, once; regions that draw are looked at where they are met. -/
noncomputable def fnOkq (f : FuncId) : Bool := isCall Try.prog f && (match Try.prog.funcs[f]? with
  | some fn => (match fn.body with
    | some c => (codeDsts c).all fun t => decide (t < fn.ntmps)
    | none => false)
  | none => false)
noncomputable def bodyq (f : FuncId) : EQ := match Try.prog.funcs[f]? with
  | some fn => (match fn.body with
    | some c => .run c fn.results.toList fn.ntmps
    | none => .no)
  | none => .no
noncomputable def evQ (f : FuncId) : EQ := Bool.rec .no (bodyq f) (fnOkq f)
end Go.Proofs.Ytaejmcgcfopmkaa
