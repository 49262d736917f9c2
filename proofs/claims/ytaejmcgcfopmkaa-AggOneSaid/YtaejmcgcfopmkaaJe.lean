/- Texts of our own, joined: the engine, the machine that runs code, and what is known of the functions. -/
import Derived.Test.YtaejmcgcfopmkaaJd
namespace Go.Proofs.Ytaejmcgcfopmkaa
open Go Go.RowKit
abbrev PK := AV → AH → Nat → Prop
abbrev CP := FuncId → List AV → AH → Nat → PK → Prop
abbrev KP := AE → AH → Nat → Prop
def optP {α : Type} (o : Option α) (k : α → Prop) : Prop := match o with
  | some a => k a
  | none => False
def bifP (b : Bool) (t e : Prop) : Prop := match b with
  | true => t
  | false => e
/-- A way that parts by a truth that is not known. -/
structure Fork (b : Bool) (A B : Prop) : Prop where
  t : b = true → A
  f : b = false → B
theorem Fork.dec {p : Prop} [Decidable p] {A B : Prop} (t : p → A) (f : ¬ p → B) : Fork (decide p) A B := ⟨fun h => t (of_decide_eq_true h), fun h => f (of_decide_eq_false h)⟩
theorem Fork.ndec {p : Prop} [Decidable p] {A B : Prop} (t : ¬ p → A) (f : p → B) : Fork (!decide p) A B := ⟨fun h => t (by simpa using h), fun h => f (by simpa using h)⟩

/-- What is known by a proof, not by reckoning. -/
inductive Ask {α : Type} (o : Option α) (κ : α → Prop) : Prop where
  | mk (a : α) (h : o = some a) (k : κ a)
/-- An index that is not known. -/
inductive Idx (i : Int) (len : Nat) (κ : Nat → Prop) : Prop where
  | mk (j : Nat) (h : i = (j : Int)) (lt : j < len) (k : κ j)
/-- A value as one that is known. -/
def hd : AV → AV
  | .si k n => .int k n
  | .sb b => .bool b
  | .ss s => .str s
  | .sy b o n c k => .sl b o n c k
  | v => v
/-- A value as one that is not known. -/
def mk : AV → AV
  | .int k n => .si k n
  | .bool b => .sb b
  | .str s => .ss s
  | .sl b o n c k => .sy b o n c k
  | v => v
def isS : AV → Bool
  | .si _ _ => true
  | .sb _ => true
  | .ss _ => true
  | .sy _ _ _ _ _ => true
  | _ => false

theorem Fork.sb {A B : Prop} {b : Bool} (t : b = true → A) (f : b = false → B) : Fork b A B := ⟨t, f⟩
theorem Fork.nsb {A B : Prop} {b : Bool} (t : b = false → A) (f : b = true → B) : Fork (!b) A B := ⟨fun h => t (by simpa using h), fun h => f (by simpa using h)⟩

/-! ### operations -/
/-- 'c': the second number is known. -/
def symP (op : BinOp) (k j : IntKind) (a b : Int) (c : Bool) (κ : AV → Prop) : Prop := match op with
  | .shl => (match c with
    | true => bifP (ltq b 0) False (κ (.si k (k.wrap (a * 2 ^ min b.toNat k.bits))))
    | false => 0 ≤ b ∧ κ (.si k (k.wrap (a * 2 ^ min b.toNat k.bits))))
  | .shr => (match c with
    | true => bifP (ltq b 0) False (κ (.si k (a.fdiv (2 ^ min b.toNat k.bits))))
    | false => 0 ≤ b ∧ κ (.si k (a.fdiv (2 ^ min b.toNat k.bits))))
  | op => bifP (kindq k j) (match op with
    | .add => κ (.si k (k.wrap (a + b)))
    | .sub => κ (.si k (k.wrap (a - b)))
    | .mul => κ (.si k (k.wrap (a * b)))
    | .quo => (match c with
      | true => bifP (eqq b 0) False (κ (.si k (k.wrap (a.tdiv b))))
      | false => b ≠ 0 ∧ κ (.si k (k.wrap (a.tdiv b))))
    | .rem => (match c with
      | true => bifP (eqq b 0) False (κ (.si k (a.tmod b)))
      | false => b ≠ 0 ∧ κ (.si k (a.tmod b)))
    | .and => κ (.si k (bitsV .and k a b))
    | .or => κ (.si k (bitsV .or k a b))
    | .xor => κ (.si k (bitsV .xor k a b))
    | .andNot => κ (.si k (bitsV .andNot k a b))
    | .eql => κ (.sb (decide (a = b)))
    | .neq => κ (.sb (!decide (a = b)))
    | .lss => κ (.sb (decide (a < b)))
    | .leq => κ (.sb (decide (a ≤ b)))
    | .gtr => κ (.sb (decide (b < a)))
    | .geq => κ (.sb (decide (b ≤ a)))
    | _ => False) False
def strP (op : BinOp) (a b : List Nat) (κ : AV → Prop) : Prop := match op with
  | .add => a.length + b.length ≤ 9223372036854775807 ∧ κ (.ss (a ++ b))
  | .eql => κ (.sb (beqL a b))
  | .neq => κ (.sb (!beqL a b))
  | .lss => κ (.sb (ltL a b))
  | .leq => κ (.sb (ltL a b || beqL a b))
  | .gtr => κ (.sb (!(ltL a b || beqL a b)))
  | .geq => κ (.sb (!ltL a b))
  | _ => False
noncomputable def bolP (op : BinOp) (t : TypeId) (a b : Bool) (κ : AV → Prop) : Prop := bifP (isBoolT Try.prog t) (match op with
  | .eql => κ (.sb (a == b))
  | .neq => κ (.sb (!(a == b)))
  | _ => False) False
noncomputable def binP (op : BinOp) (t : TypeId) (x y : AV) (H : AH) (κ : AV → Prop) : Prop := match x, y with
  | .int k a, .int j b => optP (eint op k j a b) κ
  | .int k a, .si j b => symP op k j a b false κ
  | .si k a, .int j b => symP op k j a b true κ
  | .si k a, .si j b => symP op k j a b false κ
  | .ss a, .ss b => strP op a b κ
  | .ss a, .str b => strP op a b κ
  | .str a, .ss b => strP op a b κ
  | .sb a, .sb b => bolP op t a b κ
  | .sb a, .bool b => bolP op t a b κ
  | .bool a, .sb b => bolP op t a b κ
  | .agg xs, .agg ys => bifP (xs.any isS || ys.any isS) (optP (ebin Try.prog op t (.agg (xs.map hd)) (.agg (ys.map hd)) H) fun v => κ (mk v)) (optP (ebin Try.prog op t (.agg xs) (.agg ys) H) κ)
  | x, y => optP (ebin Try.prog op t x y H) κ
noncomputable def unP (op : UnOp) (x : AV) (κ : AV → Prop) : Prop := match op, x with
  | .not, .sb b => κ (.sb (!b))
  | .neg, .si k n => κ (.si k (k.wrap (0 - n)))
  | .xor, .si k n => κ (.si k (bitsV .xor k (if k.signed then -1 else k.max) n))
  | op, x => optP (eun op x) κ
def pickP (c : AV) (A B : Prop) : Prop := match c with
  | .bool true => A
  | .bool false => B
  | .sb q => Fork q A B
  | _ => False
def intKindOf (P : Program) (t : TypeId) : Option IntKind := match P.underlying t with
  | some (.int k) => some k
  | _ => none
/-- What is yielded, taken apart (so that a name stays a number that reckons). -/
noncomputable def un3 (κ : PK) (r : AV × AH × Nat) : Prop := Prod.rec (fun v q => Prod.rec (fun H n => κ v H n) q) r
noncomputable def slowP (o : Op) (σ : AE) (H : AH) (n : Nat) (κ : PK) : Prop := optP (estep Try.prog noCall o σ H n) (un3 κ)
noncomputable def mmP (mx : Bool) (x y : AV) (κ : AV → Prop) : Prop := match x, y with
  | .si k a, .si _ b => κ (.si k (if mx then max a b else min a b))
  | .si k a, .int _ b => κ (.si k (if mx then max a b else min a b))
  | .int k a, .si _ b => κ (.si k (if mx then max a b else min a b))
  | x, y => optP (emm mx x y) κ
noncomputable def lenP (t : TypeId) (x : AV) (H : AH) (κ : AV → Prop) : Prop := match x with
  | .ss _ => optP (elen Try.prog t (hd x) H) fun v => κ (mk v)
  | .sy _ _ _ _ _ => optP (elen Try.prog t (hd x) H) fun v => κ (mk v)
  | _ => optP (elen Try.prog t x H) κ
noncomputable def ixP (ix : AV) (len : Nat) (s : Bool) (κ : Nat → Prop) : Prop := match ix, s with
  | .si _ i, _ => Idx i len κ
  | .int _ i, true => Idx i len κ
  | _, _ => optP (eix ix len) κ
noncomputable def indexAddrP (t : TypeId) (x ix : AV) (κ : AV → Prop) : Prop := match Try.prog.underlying t, x with
  | some (.slice e), .sl b o n _ _ => optP (tySize Try.prog e) fun k => ixP ix n false fun i => κ (.ptr b (o + i * k))
  | some (.slice e), .sy b o n _ _ => optP (tySize Try.prog e) fun k => ixP ix n true fun i => κ (.ptr b (o + i * k))
  | some (.array len e), .ptr b o => optP (tySize Try.prog e) fun k => ixP ix len false fun i => κ (.ptr b (o + i * k))
  | _, _ => False
noncomputable def indexP (t : TypeId) (x ix : AV) (κ : AV → Prop) : Prop := match Try.prog.underlying t, x with
  | some (.array len e), .agg l => optP (tySize Try.prog e) fun k => ixP ix len false fun i => optP (epart Try.prog e l (i * k)) κ
  | some .string, .str s => ixP ix s.length false fun i => optP (nth s i) fun c => (match ix with
    | .int _ _ => κ (.int .u8 (Int.ofNat c))
    | _ => κ (.si .u8 (Int.ofNat c)))
  | some .string, .ss s => ixP ix s.length true fun i => Ask (nth s i) fun c => κ (.si .u8 (Int.ofNat c))
  | _, _ => False
noncomputable def getP (l : List AV) (t : TypeId) (o : Nat) (κ : AV → Prop) : Prop := match tyAgg Try.prog t with
  | some false => optP (nth l o) κ
  | some true => optP (tySize Try.prog t) fun m => optP (subL l o m) fun r => κ (.agg r)
  | none => False
noncomputable def loadP (t : TypeId) (a : AV) (H : AH) (κ : AV → Prop) : Prop := match a with
  | .ptr b o => (match H.get b with
    | some (.cells l _) => getP l t o κ
    | some (.ro l) => getP l t o κ
    | _ => False)
  | _ => False
noncomputable def storeP (t : TypeId) (a v : AV) (H : AH) (n : Nat) (κ : PK) : Prop := match a with
  | .ptr b o => (match H.get b with
    | some (.cells l z) => optP (tySize Try.prog t) fun s => bifP (Nat.beq v.cells.length s && (okC v && v.cells.all one1)) (optP (setL l o v.cells) fun l' => κ undefA (H.set (some (.cells l' z)) depthH b) n) False
    | _ => False)
  | _ => False
noncomputable def mk3 (κ : PK) (r : AV × AH × Nat) : Prop := un3 (fun v H n => κ (mk v) H n) r
noncomputable def appendP (t u : TypeId) (s x : AV) (H : AH) (n : Nat) (κ : PK) : Prop := bifP (isS s || isS x) (Ask (eappend Try.prog t u (hd s) (hd x) H n) (mk3 κ)) (optP (eappend Try.prog t u s x H n) (un3 κ))
noncomputable def copyP (t : TypeId) (s x : AV) (H : AH) (n : Nat) (κ : PK) : Prop := bifP (isS s || isS x) (Ask (ecopy Try.prog t (hd s) (hd x) H n) (mk3 κ)) (optP (ecopy Try.prog t s x H n) (un3 κ))
noncomputable def makeP (t : TypeId) (l c : AV) (H : AH) (n : Nat) (κ : PK) : Prop := bifP (isS l || isS c) (Ask (emake Try.prog t (hd l) (hd c) H n) (mk3 κ)) (optP (emake Try.prog t l c H n) (un3 κ))
noncomputable def sliceP (t : TypeId) (x : AV) (lo hi mx : Option AV) (κ : AV → Prop) : Prop := bifP (isS x || (optS lo || (optS hi || optS mx))) (Ask (eslice Try.prog t (hd x) (lo.map hd) (hi.map hd) (mx.map hd)) fun v => κ (mk v)) (optP (eslice Try.prog t x lo hi mx) κ)
where optS : Option AV → Bool
  | some v => isS v
  | none => false
noncomputable def callP (c : Call) (call : CP) (σ : AE) (H : AH) (n : Nat) (κ : PK) : Prop := match c.callee with
  | .value f => (match eev σ f with
    | .fn g a cs => call g (a ++ c.args.toList.map (eev σ) ++ cs) H n κ
    | _ => False)
  | .builtin .len => (match c.argTypes.toList, c.args.toList.map (eev σ) with
    | [t], [x] => lenP t x H fun v => κ v H n
    | _, _ => False)
  | .builtin .min => (match c.args.toList.map (eev σ) with
    | [x, y] => mmP false x y fun v => κ v H n
    | _ => False)
  | .builtin .max => (match c.args.toList.map (eev σ) with
    | [x, y] => mmP true x y fun v => κ v H n
    | _ => False)
  | .builtin .append => (match c.argTypes.toList, c.args.toList.map (eev σ) with
    | [t, u], [s, x] => appendP t u s x H n κ
    | _, _ => False)
  | .builtin .copy => (match c.argTypes.toList, c.args.toList.map (eev σ) with
    | [t, _], [s, x] => copyP t s x H n κ
    | _, _ => False)
  | _ => False
noncomputable def convP (src dst : TypeId) (x : AV) (H : AH) (n : Nat) (κ : PK) : Prop := match x with
  | .si _ a => (match intKindOf Try.prog src, intKindOf Try.prog dst with
    | some _, some k => κ (.si k (k.wrap a)) H n
    | _, _ => False)
  | _ => bifP (isS x) (Ask (econv Try.prog src dst (hd x) H n) (mk3 κ)) (optP (econv Try.prog src dst x H n) (un3 κ))
noncomputable def stepP (o : Op) (call : CP) (σ : AE) (H : AH) (n : Nat) (κ : PK) : Prop := match o with
  | .move x => κ (eev σ x) H n
  | .assign x => κ (eev σ x) H n
  | .pick c a b => pickP (eev σ c) (κ (eev σ a) H n) (κ (eev σ b) H n)
  | .load t a => loadP t (eev σ a) H fun v => κ v H n
  | .store t a x => storeP t (eev σ a) (eev σ x) H n κ
  | .binOp op t x y _ => binP op t (eev σ x) (eev σ y) H fun v => κ v H n
  | .unOp op _ x => unP op (eev σ x) fun v => κ v H n
  | .indexAddr t x ix => indexAddrP t (eev σ x) (eev σ ix) fun v => κ v H n
  | .index t x ix => indexP t (eev σ x) (eev σ ix) fun v => κ v H n
  | .slice t x lo hi mx => sliceP t (eev σ x) (lo.map (eev σ)) (hi.map (eev σ)) (mx.map (eev σ)) fun v => κ v H n
  | .makeSlice t l c => makeP t (eev σ l) (eev σ c) H n κ
  | .convert s d x => convP s d (eev σ x) H n κ
  | .call c => callP c call σ H n κ
  | o => slowP o σ H n κ

/-! ### code -/
noncomputable def opP (ops : Array Oper) (o : Oper) (call : CP) (σ : AE) (H : AH) (n : Nat) (k : KP) : Prop := match o.guard with
  | none => stepP o.op call σ H n fun v H n => k (eput σ o.dst v) H n
  | some (j, want) => (match gslot ops j with
    | none => False
    | some t => (match getq (pa t) σ with
      | .bool q => (match q == want with
        | true => stepP o.op call σ H n fun v H n => k (eput σ o.dst v) H n
        | false => k (eput σ o.dst undefA) H n)
      | .sb q => (match want with
        | true => Fork q (stepP o.op call (eput σ (some t) (.bool true)) H n fun v H n => k (eput (eput σ (some t) (.bool true)) o.dst v) H n) (k (eput (eput σ (some t) (.bool false)) o.dst undefA) H n)
        | false => Fork q (k (eput (eput σ (some t) (.bool true)) o.dst undefA) H n) (stepP o.op call (eput σ (some t) (.bool false)) H n fun v H n => k (eput (eput σ (some t) (.bool false)) o.dst v) H n))
      | .tup _ => k (eput σ o.dst undefA) H n
      | _ => False))
noncomputable def opsP (ops : Array Oper) (l : List Oper) : CP → AE → AH → Nat → KP → Prop :=
  List.rec (fun _ σ H n k => k σ H n) (fun o _ ih call σ H n k => opP ops o call σ H n fun σ H n => ih call σ H n k) l
abbrev XP := CP → AE → AH → Nat → KP → (Nat → KP) → KP → Prop
/-- A known truth put into its slot. -/
noncomputable def refP (c : Operand) (q : Bool) (σ : AE) : AE := match c with
  | .tmp t => eput σ (some t) (.bool q)
  | _ => σ
noncomputable def condP (c : Operand) (σ : AE) (A B : AE → Prop) : Prop := match eev σ c with
  | .bool true => A σ
  | .bool false => B σ
  | .sb q => Fork q (A (refP c true σ)) (B (refP c false σ))
  | _ => False
/-- What stands for one state stands for another one, whose blocks below p have the same names. -/
def Cov (p : Nat) (σ : AE) (H : AH) (n : Nat) (s : AE × AH × Nat) : Prop := ∀ (φ : Ph) (h0 h : Hp) (ρ : Env), HR φ H n h0 h → FR φ σ ρ → ∃ ψ : Ph, (∀ b q, b < p → φ b = some q → ψ b = some q) ∧ HR ψ s.2.1 s.2.2 h0 h ∧ FR ψ s.1 ρ
/-- A loop walked to its end, at most k times. -/
noncomputable def rollP (k : Nat) (body : AE → AH → Nat → KP → Prop) : KP := Nat.rec (fun _ _ _ => False) (fun _ ih σ H n => body σ H n ih) k
inductive LoopP (p : Nat) (body : AE → AH → Nat → KP → Prop) (σ : AE) (H : AH) (n : Nat) : Prop where
  | mk (α : Type) (m : Nat) (st : α → AE × AH) (μ : α → Nat) (a0 : α) (h0 : Cov p σ H n ((st a0).1, (st a0).2, m)) (h : ∀ a, body (st a).1 (st a).2 m fun σ' H' n' => ∃ a', μ a' < μ a ∧ Cov p σ' H' n' ((st a').1, (st a').2, m))
  | roll (k : Nat) (h : rollP k body σ H n)
/-! ### a region that draws its order -/
/-- Of one operation: how many places back the memory is that it looks at (none: it is a call), and its slots. -/
abbrev DB := Option Nat × List Nat
abbrev DT := List (Nat × List DB)
noncomputable def findD (D : DT) (id : Nat) : Option (List DB) := List.rec none (fun x _ ih => Bool.rec ih (some x.2) (Nat.beq x.1 id)) D
noncomputable def filtq (σ : AE) (ts : List Nat) : AE := List.rec .nil (fun t _ ih => setq (getq (pa t) σ) (pa t) ih) ts
/-- An operation that only looks. -/
noncomputable def qP (o : Op) (σ : AE) (H : AH) (κ : AV → Prop) : Prop := match o with
  | .move x => κ (eev σ x)
  | .assign x => κ (eev σ x)
  | .pick c a b => pickP (eev σ c) (κ (eev σ a)) (κ (eev σ b))
  | .load t a => loadP t (eev σ a) H κ
  | .binOp op t x y _ => binP op t (eev σ x) (eev σ y) H κ
  | .unOp op _ x => unP op (eev σ x) κ
  | .indexAddr t x ix => indexAddrP t (eev σ x) (eev σ ix) κ
  | .index t x ix => indexP t (eev σ x) (eev σ ix) κ
  | .slice t x lo hi mx => sliceP t (eev σ x) (lo.map (eev σ)) (hi.map (eev σ)) (mx.map (eev σ)) κ
  | .call ⟨.builtin .len, xs, ts⟩ => (match ts.toList, xs.toList.map (eev σ) with
    | [t], [x] => lenP t x H κ
    | _, _ => False)
  | .call ⟨.builtin .min, xs, _⟩ => (match xs.toList.map (eev σ) with
    | [x, y] => mmP false x y κ
    | _ => False)
  | .call ⟨.builtin .max, xs, _⟩ => (match xs.toList.map (eev σ) with
    | [x, y] => mmP true x y κ
    | _ => False)
  | o => optP (epure Try.prog o σ H) κ
noncomputable def dynOp (ops : Array Oper) (o : Oper) (b : DB) (cd : CP) (hist : List (AH × Nat)) (σ : AE) (H : AH) (n : Nat) (k : KP) : Prop :=
  let go : AE → Prop := fun σ => (match b.1 with
    | none => (match o.op with
      | .call c => callP c cd (filtq σ b.2) H n fun v H n => k (eput σ o.dst v) H n
      | _ => False)
    | some j => optP (nth ((H, n) :: hist) j) fun r => qP o.op (filtq σ b.2) r.1 fun v => k (eput σ o.dst v) H n)
  match o.guard with
  | none => go σ
  | some (j, want) => (match gslot ops j with
    | none => False
    | some t => (match getq (pa t) σ with
      | .bool q => (match q == want with
        | true => go σ
        | false => k (eput σ o.dst undefA) H n)
      | .sb q => (match want with
        | true => Fork q (go (eput σ (some t) (.bool true))) (k (eput (eput σ (some t) (.bool false)) o.dst undefA) H n)
        | false => Fork q (k (eput (eput σ (some t) (.bool true)) o.dst undefA) H n) (go (eput σ (some t) (.bool false))))
      | .tup _ => k (eput σ o.dst undefA) H n
      | _ => False))
noncomputable def dynL (ops : Array Oper) (l : List Oper) : List DB → CP → List (AH × Nat) → AE → AH → Nat → KP → Prop :=
  List.rec (fun _ _ _ σ H n k => k σ H n) (fun o _ ih bs cd hist σ H n k => List.rec False (fun b bs' _ => dynOp ops o b cd hist σ H n fun σ' H' n' => ih bs' cd ((H, n) :: hist) σ' H' n' k) bs) l
/-- What is ahead of each operation by the edges, as bits. -/
def maskOf (A : List Nat) (i : Nat) (o : Oper) : Nat := o.after.toList.foldl (fun m e => if Region.binds .any e && decide (e.on < i) then m ||| (2 ^ e.on ||| A.getD e.on 0) else m) 0
def ancsGo : List Oper → Nat → List Nat → List Nat
  | [], _, A => A
  | o :: l, i, A => ancsGo l (i + 1) (A ++ [maskOf A i o])
def ancOk (A : List Nat) (ops : Array Oper) : Bool := (List.range ops.size).all fun i => match ops[i]? with
  | some o => A.getD i 0 == maskOf A i o
  | none => true
def befA (A : List Nat) (j i : Nat) : Bool := (A.getD i 0).testBit j
def isCallV : Op → Bool
  | .call ⟨.value _, _, _⟩ => true
  | _ => false
def loudAt (ops : Array Oper) (j : Nat) : Bool := match ops[j]? with
  | some o => loudOp o.op
  | none => false
def gslotIn (ops : Array Oper) (o : Oper) (ts : List Nat) : Bool := match o.guard with
  | none => true
  | some (j, _) => (match gslot ops j with
    | some t => ts.contains t
    | none => true)
def opOk (A : List Nat) (ops : Array Oper) (bs : List DB) (i : Nat) : Bool := match ops[i]?, bs[i]? with
  | some o, some b => b.2.all (fun t => (looks ops o).contains t) && gslotIn ops o b.2 && (match b.1 with
      | none => isCallV o.op
      | some k => !loudOp o.op && (decide (k ≤ i) && (List.range (i - k)).all fun j => !loudAt ops j || befA A j i)) &&
    (List.range i).all fun j => (match ops[j]? with
      | some a => a.apart ops o && (!loudOp a.op || !loudOp o.op)
      | none => true) || befA A j i
  | _, _ => false
def dynOk (ops : Array Oper) (bs : List DB) : Bool := edgesOk ops && (ancOk (ancsGo ops.toList 0 []) ops && (List.range ops.size).all (opOk (ancsGo ops.toList 0 []) ops bs))
noncomputable def drawOk (D : DT) (c : Code) : Bool := Code.rec (motive := fun _ => Bool)
  true
  (fun id ops draw => Bool.rec true (Option.rec (swapB Try.prog ops) (fun bs => dynOk ops bs) (findD D id)) draw)
  (fun _ _ a b => Bool.rec false b a)
  (fun _ _ _ a b => Bool.rec false b a)
  (fun _ _ b => b)
  (fun _ b => b)
  (fun _ _ _ _ _ _ => true)
  (fun _ => true)
  (fun _ _ => true)
  (fun _ => true)
  (fun _ => true)
  true
  (fun _ => true) c
noncomputable def execP (p : Nat) (cd : CP) (D : DT) (c : Code) : XP := Code.rec (motive := fun _ => XP)
  (fun _ σ H n kn _ _ => kn σ H n)
  (fun id ops draw => Bool.rec (fun call σ H n kn _ _ => opsP ops ops.toList call σ H n kn) (Option.rec (fun call σ H n kn _ _ => opsP ops ops.toList call σ H n kn) (fun bs _ σ H n kn _ _ => dynL ops ops.toList bs cd [] σ H n kn) (findD D id)) draw)
  (fun _ _ a b call σ H n kn kx kr => a call σ H n (fun σ H n => b call σ H n kn kx kr) kx kr)
  (fun c _ _ a b call σ H n kn kx kr => condP c σ (fun σ => a call σ H n kn kx kr) (fun σ => b call σ H n kn kx kr))
  (fun id _ b call σ H n kn kx kr => b call σ H n kn (fun i σ H n => bifP (Nat.beq i id) (kn σ H n) (kx i σ H n)) kr)
  (fun _ b call σ H n _ kx kr => LoopP p (fun σ H n k => b call σ H n k kx kr) σ H n)
  (fun _ _ _ _ _ _ _ _ _ _ _ _ _ => False)
  (fun i _ σ H n _ kx _ => kx i σ H n)
  (fun _ _ _ _ _ _ _ _ _ => False)
  (fun _ _ _ _ _ _ _ _ => False)
  (fun _ _ _ _ _ _ _ _ => False)
  (fun _ σ H n _ _ kr => kr σ H n)
  (fun _ _ _ _ _ _ _ _ => False) c
noncomputable def resP (rs : List ResultVar) (σ : AE) (H : AH) (k : List AV → Prop) : Prop :=
  List.rec (fun k => k []) (fun r _ ih k => ResultVar.rec (fun t => ih fun vs => k (getq (pa t) σ :: vs)) (fun a t => loadP t (getq (pa a) σ) H fun v => ih fun vs => k (v :: vs)) r) rs k
/-- A function's run, its callees by a table. -/
noncomputable def runP (call cd : CP) (D : DT) (c : Code) (rs : List ResultVar) (m : Nat) (args : List AV) (H : AH) (n : Nat) (κ : PK) : Prop :=
  bifP (Nat.ble args.length m) (execP n cd D c call (eentry args 0 .nil) H n (fun σ H n => resP rs σ H fun vs => κ (epack vs) H n) (fun _ _ _ _ => False) (fun σ H n => resP rs σ H fun vs => κ (epack vs) H n)) False
inductive EP where
  | no
  | run (D : DT) (c : Code) (rs : List ResultVar) (m : Nat)
  | nat (g : List AV → AH → Nat → PK → Prop)
  | det (g : List AV → AH → Nat → PK → Prop)
/-- The functions of the table that may be called in a region that draws its order. -/
noncomputable def callD (F : FuncId → EP) : CP := fun f args H n κ => EP.rec (fun _ _ _ _ => False) (fun _ _ _ _ _ _ _ _ => False) (fun _ _ _ _ _ => False) (fun g => g) (F f) args H n κ
noncomputable def callT (F : FuncId → EP) (d : Nat) : CP := Nat.rec (fun _ _ _ _ _ => False) (fun _ ih f args H n κ => EP.rec (fun _ _ _ _ => False) (fun D c rs m => runP ih (callD F) D c rs m) (fun g => g) (fun g => g) (F f) args H n κ) d
noncomputable def bodyP (D : DT) (f : FuncId) : EP := match Try.prog.funcs[f]? with
  | some fn => (match fn.body with
    | some c => .run D c fn.results.toList fn.ntmps
    | none => .no)
  | none => .no
noncomputable def drawF (D : DT) (f : FuncId) : Bool := match Try.prog.funcs[f]? with
  | some fn => (match fn.body with
    | some c => drawOk D c
    | none => false)
  | none => false
noncomputable def evP (f : FuncId) : EP := Bool.rec .no (Bool.rec .no (bodyP [] f) (drawF [] f)) (fnOkq f)
end Go.Proofs.Ytaejmcgcfopmkaa
namespace Go.Proofs.Ytaejmcgcfopmkaa
open Go Go.RowKit
section
variable {φ : Ph} {H : AH} {n : Nat} {h0 h : Hp} {σ : AE} {ρ : Env}
theorem optP_inv {α : Type} {o : Option α} {k : α → Prop} (h : optP o k) : ∃ a, o = some a ∧ k a := by
  cases o with
  | none => exact h.elim
  | some a => exact ⟨a, rfl, h⟩
theorem optP_of {α : Type} {o : Option α} {k : α → Prop} {a : α} (h : o = some a) (hk : k a) : optP o k := by subst h; exact hk
theorem bifP_inv {b : Bool} {t : Prop} (h : bifP b t False) : b = true ∧ t := by
  cases b with
  | true => exact ⟨rfl, h⟩
  | false => exact h.elim
theorem Ask.inv {α : Type} {o : Option α} {k : α → Prop} (h : Ask o k) : ∃ a, o = some a ∧ k a := by
  obtain ⟨a, h1, h2⟩ := h; exact ⟨a, h1, h2⟩
theorem VR.hd {a : AV} {v : Value} (h : VR φ a v) : VR φ (hd a) v := by cases a <;> exact h
theorem VR.mk {a : AV} {v : Value} (h : VR φ a v) : VR φ (mk a) v := by cases a <;> exact h
theorem VRs.mapHd : ∀ {l : List AV} {vs : List Value}, VRs φ l vs → VRs φ (l.map Go.Proofs.Ytaejmcgcfopmkaa.hd) vs
  | [], vs, h => by rw [h.nil_inv]; exact .nil
  | a :: l, vs, h => by
    obtain ⟨v, us, rfl, h1, h2⟩ := h.cons_inv
    exact .cons h1.hd (VRs.mapHd h2)
theorem VR.aggHd {l : List AV} {v : Value} (h : VR φ (.agg l) v) : VR φ (.agg (l.map Go.Proofs.Ytaejmcgcfopmkaa.hd)) v := by
  obtain ⟨cs, rfl, h1⟩ := h.agg_inv
  exact .agg h1.mapHd
/-- What follows an operation of the machine that asks. -/
def ThenP (φ : Ph) (h0 : Hp) (κ : PK) (K : KH) : Prop := ∀ (ψ : Ph) (v : AV) (H : AH) (n : Nat) (u : Value) (g : Hp), PLe φ ψ → HR ψ H n h0 g → VR ψ v u → κ v H n → K u g
theorem ThenP.then {κ : PK} {K : KH} {v : AV} (hk : ThenP φ h0 κ K) (h : κ v H n) : Then φ h0 v H n K := fun ψ u g h1 h2 h3 => hk ψ v H n u g h1 h2 h3 h
theorem ThenP.thenMk {κ : PK} {K : KH} {r : AV × AH × Nat} (hk : ThenP φ h0 κ K) (h : mk3 κ r) : Then φ h0 r.1 r.2.1 r.2.2 K := fun ψ u g h1 h2 h3 => hk ψ _ _ _ u g h1 h2 h3.mk h
def CPok (call : CP) : Prop := ∀ (f : FuncId) (args : List AV) (H : AH) (n : Nat) (κ : PK), call f args H n κ → ∀ (φ : Ph) (h0 h : Hp) (vs : Array Value) (K : KH), HR φ H n h0 h → VRs φ args vs.toList → ThenP φ h0 κ K → CallF Try.prog f vs h K

/-! ### operations -/
theorem symP_sound {P : Program} {op : BinOp} {t : TypeId} {k j : IntKind} {a b : Int} {c : Bool} {κ : AV → Prop} {K : Value → Prop} (hs : symP op k j a b c κ) (hk : ∀ r u, κ r → VR φ r u → K u) : abin P op t (.int k a) (.int j b) K := by
  have hi : ∀ {x}, κ (.si k x) → K (.int k x) := fun h => hk _ _ h (.si _ _)
  have hb : ∀ {x}, κ (.sb x) → K (.bool x) := fun h => hk _ _ h (.sb _)
  have kd : ∀ {A : Prop}, bifP (kindq k j) A False → k = j ∧ A := fun h => by
    obtain ⟨h1, h2⟩ := bifP_inv h
    rw [kindq_eq] at h1
    exact ⟨by simpa using h1, h2⟩
  cases op <;> simp only [symP] at hs
  case shl =>
    cases c with
    | false => exact ⟨hs.1, hi hs.2⟩
    | true =>
      cases hl : ltq b 0 with
      | true => rw [hl] at hs; exact hs.elim
      | false =>
        rw [hl] at hs
        rw [ltq_eq] at hl
        have : ¬ b < 0 := by simpa using hl
        exact ⟨by omega, hi hs⟩
  case shr =>
    cases c with
    | false => exact ⟨hs.1, hi hs.2⟩
    | true =>
      cases hl : ltq b 0 with
      | true => rw [hl] at hs; exact hs.elim
      | false =>
        rw [hl] at hs
        rw [ltq_eq] at hl
        have : ¬ b < 0 := by simpa using hl
        exact ⟨by omega, hi hs⟩
  all_goals (obtain ⟨hkj, h2⟩ := kd hs; clear hs; subst hkj)
  case quo =>
    cases c with
    | false => exact ⟨rfl, h2.1, hi h2.2⟩
    | true =>
      cases hl : eqq b 0 with
      | true => rw [hl] at h2; exact h2.elim
      | false =>
        rw [hl] at h2
        rw [eqq_eq] at hl
        exact ⟨rfl, by simpa using hl, hi h2⟩
  case rem =>
    cases c with
    | false => exact ⟨rfl, h2.1, hi h2.2⟩
    | true =>
      cases hl : eqq b 0 with
      | true => rw [hl] at h2; exact h2.elim
      | false =>
        rw [hl] at h2
        rw [eqq_eq] at hl
        exact ⟨rfl, by simpa using hl, hi h2⟩
  case neq =>
    refine ⟨rfl, ?_⟩
    have : decide (a ≠ b) = !decide (a = b) := by simp
    rw [this]; exact hb h2
  all_goals first | exact ⟨rfl, hi h2⟩ | exact ⟨rfl, hb h2⟩
theorem strP_sound {P : Program} {op : BinOp} {t : TypeId} {a b : List Nat} {κ : AV → Prop} {K : Value → Prop} (ha : ∀ x ∈ a, x < 256) (hb : ∀ x ∈ b, x < 256) (hs : strP op a b κ) (hk : ∀ r u, κ r → VR φ r u → K u) : abin P op t (.string (vstr a)) (.string (vstr b)) K := by
  have key : ∀ {r : AV}, estr op a b = some r → κ (mk r) → abin P op t (.string (vstr a)) (.string (vstr b)) K := fun e h1 => estr_sound (φ := φ) ha hb e fun u hu => hk _ u h1 hu.mk
  cases op <;> simp only [strP] at hs
  case add => exact key (r := .str (a ++ b)) (by simp only [estr]; rw [if_pos hs.1]) hs.2
  all_goals first | exact hs.elim | exact key rfl hs
theorem bolP_sound {op : BinOp} {t : TypeId} {a b : Bool} {κ : AV → Prop} {K : Value → Prop} (hs : bolP op t a b κ) (hk : ∀ r u, κ r → VR φ r u → K u) : abin Try.prog op t (.bool a) (.bool b) K := by
  obtain ⟨h1, h2⟩ := bifP_inv hs
  have ht := isBoolT_spec h1
  cases op <;> first | exact h2.elim | exact ⟨ht, hk _ _ h2 (.sb _)⟩
theorem binP_sound (hr : HR φ H n h0 h) {op : BinOp} {t : TypeId} {x y : AV} {v u : Value} {κ : AV → Prop} {K : Value → Prop} (hx : VR φ x v) (hy : VR φ y u) (hs : binP op t x y H κ) (hk : ∀ r u, κ r → VR φ r u → K u) : abinH Try.prog op t v u h K := by
  unfold binP at hs
  split at hs
  · obtain ⟨r, h1, h2⟩ := optP_inv hs
    rw [hx.int_inv, hy.int_inv]
    show abin Try.prog op t (.int _ _) (.int _ _) K
    exact eint_sound (φ := φ) h1 fun u hu => hk _ u h2 hu
  · rw [hx.int_inv, hy.si_inv]; exact symP_sound (P := Try.prog) (t := t) hs hk
  · rw [hx.si_inv, hy.int_inv]; exact symP_sound (P := Try.prog) (t := t) hs hk
  · rw [hx.si_inv, hy.si_inv]; exact symP_sound (P := Try.prog) (t := t) hs hk
  · obtain ⟨rfl, h1⟩ := hx.ss_inv
    obtain ⟨rfl, h2⟩ := hy.ss_inv
    exact strP_sound (P := Try.prog) (t := t) h1 h2 hs hk
  · obtain ⟨rfl, h1⟩ := hx.ss_inv
    obtain ⟨rfl, h2⟩ := hy.str_inv
    exact strP_sound (P := Try.prog) (t := t) h1 h2 hs hk
  · obtain ⟨rfl, h1⟩ := hx.str_inv
    obtain ⟨rfl, h2⟩ := hy.ss_inv
    exact strP_sound (P := Try.prog) (t := t) h1 h2 hs hk
  · rw [hx.sb_inv, hy.sb_inv]; exact bolP_sound hs hk
  · rw [hx.sb_inv, hy.bool_inv]; exact bolP_sound hs hk
  · rw [hx.bool_inv, hy.sb_inv]; exact bolP_sound hs hk
  · rename_i xs ys
    cases hb : (xs.any isS || ys.any isS) with
    | true =>
      rw [hb] at hs
      obtain ⟨r, h1, h2⟩ := optP_inv hs
      exact ebin_sound hr hx.aggHd hy.aggHd h1 fun u hu => hk _ u h2 hu.mk
    | false =>
      rw [hb] at hs
      obtain ⟨r, h1, h2⟩ := optP_inv hs
      exact ebin_sound hr hx hy h1 fun u hu => hk _ u h2 hu
  · obtain ⟨r, h1, h2⟩ := optP_inv hs
    exact ebin_sound hr hx hy h1 fun u hu => hk _ u h2 hu
theorem unP_sound {op : UnOp} {x : AV} {v : Value} {κ : AV → Prop} {K : Value → Prop} (hx : VR φ x v) (hs : unP op x κ) (hk : ∀ r u, κ r → VR φ r u → K u) : aun op v K := by
  unfold unP at hs
  split at hs
  · rw [hx.sb_inv]; exact hk _ _ hs (.sb _)
  · rw [hx.si_inv]; exact hk _ _ hs (.si _ _)
  · rw [hx.si_inv]; exact hk _ _ hs (.si _ _)
  · obtain ⟨r, h1, h2⟩ := optP_inv hs
    exact eun_sound hx h1 fun u hu => hk _ u h2 hu
theorem mmP_sound {q : Bool} {x y : AV} {v u : Value} {κ : AV → Prop} {K : Value → Prop} (hx : VR φ x v) (hy : VR φ y u) (hs : mmP q x y κ) (hk : ∀ r u, κ r → VR φ r u → K u) : aminmax q v u K := by
  unfold mmP at hs
  split at hs
  · rw [hx.si_inv, hy.si_inv]; exact hk _ _ hs (.si _ _)
  · rw [hx.si_inv, hy.int_inv]; exact hk _ _ hs (.si _ _)
  · rw [hx.int_inv, hy.si_inv]; exact hk _ _ hs (.si _ _)
  · obtain ⟨r, h1, h2⟩ := optP_inv hs
    exact emm_sound hx hy h1 fun u hu => hk _ u h2 hu
theorem lenP_sound (hr : HR φ H n h0 h) {t : TypeId} {x : AV} {v : Value} {κ : AV → Prop} {K : Value → Prop} (hx : VR φ x v) (hs : lenP t x H κ) (hk : ∀ r u, κ r → VR φ r u → K u) : alen Try.prog t v h K := by
  unfold lenP at hs
  split at hs
  · obtain ⟨r, h1, h2⟩ := optP_inv hs
    exact elen_sound hr hx.hd h1 fun u hu => hk _ u h2 hu.mk
  · obtain ⟨r, h1, h2⟩ := optP_inv hs
    exact elen_sound hr hx.hd h1 fun u hu => hk _ u h2 hu.mk
  · obtain ⟨r, h1, h2⟩ := optP_inv hs
    exact elen_sound hr hx h1 fun u hu => hk _ u h2 hu
theorem ixP_spec {ix : AV} {len : Nat} {s : Bool} {v : Value} {κ : Nat → Prop} (hx : VR φ ix v) (hs : ixP ix len s κ) : ∃ i, i < len ∧ (∃ k, v = .int k (i : Int)) ∧ κ i := by
  unfold ixP at hs
  split at hs
  · obtain ⟨j, rfl, h1, h2⟩ := hs
    exact ⟨j, h1, ⟨_, hx.si_inv⟩, h2⟩
  · obtain ⟨j, rfl, h1, h2⟩ := hs
    exact ⟨j, h1, ⟨_, hx.int_inv⟩, h2⟩
  · obtain ⟨i, h1, h2⟩ := optP_inv hs
    obtain ⟨h3, h4⟩ := eix_spec hx h1
    exact ⟨i, h3, h4, h2⟩
theorem indexAddrP_sound {t : TypeId} {x ix : AV} {v u : Value} {κ : AV → Prop} {K : Value → Prop} (hx : VR φ x v) (hi : VR φ ix u) (hs : indexAddrP t x ix κ) (hk : ∀ r u, κ r → VR φ r u → K u) : aindexAddr Try.prog t v u K := by
  have sl : ∀ {e b o m c k s}, Try.prog.underlying t = some (.slice e) → VR φ (.sl b o m c k) v → optP (tySize Try.prog e) (fun k => ixP ix m s fun i => κ (.ptr b (o + i * k))) → aindexAddr Try.prog t v u K := fun {e b o m c k s} hu hx hs => by
    obtain ⟨es, h1, h2⟩ := optP_inv hs
    obtain ⟨i, h3, ⟨kk, rfl⟩, h4⟩ := ixP_spec hi h2
    obtain ⟨p, C, hp, rfl, _, _⟩ := hx.sl_inv
    simp only [aindexAddr, hu, h1]
    refine ⟨by omega, by omega, ?_⟩
    rw [Int.toNat_natCast, Nat.add_assoc]
    exact hk _ _ h4 (.ptr hp)
  unfold indexAddrP at hs
  split at hs
  · rename_i hu; exact sl hu hx hs
  · rename_i hu; exact sl hu hx.hd hs
  · rename_i len el b o hu
    obtain ⟨es, h1, h2⟩ := optP_inv hs
    obtain ⟨i, h3, ⟨kk, rfl⟩, h4⟩ := ixP_spec hi h2
    obtain ⟨p, hp, rfl⟩ := hx.ptr_inv
    simp only [aindexAddr, hu, h1]
    refine ⟨by omega, by omega, ?_⟩
    rw [Int.toNat_natCast, Nat.add_assoc]
    exact hk _ _ h4 (.ptr hp)
  · exact hs.elim
theorem indexP_sound {t : TypeId} {x ix : AV} {v u : Value} {κ : AV → Prop} {K : Value → Prop} (hx : VR φ x v) (hi : VR φ ix u) (hs : indexP t x ix κ) (hk : ∀ r u, κ r → VR φ r u → K u) : aindex Try.prog t v u K := by
  have str : ∀ {s : List Nat} {i c : Nat} {kk : IntKind} {q : Bool}, Try.prog.underlying t = some .string → VR φ (.str s) v → u = .int kk (i : Int) → i < s.length → nth s i = some c → (∀ u, VR φ (.int .u8 (Int.ofNat c)) u → K u) → aindex Try.prog t v u K := fun {s i c kk q} hu hx he hlt hc hk => by
    obtain ⟨rfl, hs⟩ := hx.str_inv
    subst he
    rw [nth_eq] at hc
    have h2 := hs c (List.mem_of_getElem? hc)
    simp only [aindex, hu, vstr_toList, Int.toNat_natCast, List.getElem?_map, hc, Option.map_some]
    refine ⟨by omega, hk _ ?_⟩
    have : ((UInt8.ofNat c).toNat : Int) = Int.ofNat c := by
      rw [UInt8.toNat_ofNat', Nat.mod_eq_of_lt h2]; rfl
    rw [this]; exact .int _ _
  unfold indexP at hs
  split at hs
  · rename_i len el l hu
    obtain ⟨cs, rfl, hl⟩ := hx.agg_inv
    obtain ⟨k, h1, h2⟩ := optP_inv hs
    obtain ⟨i, h3, ⟨kk, rfl⟩, h4⟩ := ixP_spec hi h2
    obtain ⟨r, h5, h6⟩ := optP_inv h4
    simp only [aindex, hu, h1]
    refine ⟨by omega, by omega, ?_⟩
    rw [Int.toNat_natCast]
    exact epart_sound hl h5 fun u hu => hk _ u h6 hu
  · rename_i s hu
    obtain ⟨i, h3, ⟨kk, he⟩, h4⟩ := ixP_spec hi hs
    obtain ⟨c, h5, h6⟩ := optP_inv h4
    refine str (q := true) hu hx he h3 h5 fun u hu => ?_
    split at h6
    · exact hk _ u h6 hu
    · exact hk _ u h6 hu.mk
  · rename_i s hu
    obtain ⟨i, h3, ⟨kk, he⟩, h4⟩ := ixP_spec hi hs
    obtain ⟨c, h5, h6⟩ := h4.inv
    exact str (q := true) hu hx.hd he h3 h5 fun u hu => hk _ u h6 hu.mk
  · exact hs.elim
theorem getP_load {l : List AV} {t : TypeId} {b o : Nat} {κ : AV → Prop} {z : Bool} (hb : H.get b = some (.cells l z) ∨ H.get b = some (.ro l)) (hs : getP l t o κ) : ∃ r, eload Try.prog t (.ptr b o) H = some r ∧ κ r := by
  unfold getP at hs
  split at hs
  · rename_i hg
    obtain ⟨r, h1, h2⟩ := optP_inv hs
    exact ⟨r, by rcases hb with hb | hb <;> simp only [eload, hb, hg, h1], h2⟩
  · rename_i hg
    obtain ⟨m, h1, h2⟩ := optP_inv hs
    obtain ⟨r, h3, h4⟩ := optP_inv h2
    exact ⟨.agg r, by rcases hb with hb | hb <;> simp only [eload, hb, hg, h1, h3, Option.map_some], h4⟩
  · exact hs.elim
theorem loadP_sound (hr : HR φ H n h0 h) {t : TypeId} {a : AV} {v : Value} {κ : AV → Prop} {K : Value → Prop} (ha : VR φ a v) (hs : loadP t a H κ) (hk : ∀ r u, κ r → VR φ r u → K u) : aload Try.prog t v h K := by
  unfold loadP at hs
  split at hs
  · split at hs
    · rename_i hb
      obtain ⟨r, h1, h2⟩ := getP_load (.inl hb) hs
      exact eload_sound hr ha h1 fun u hu => hk _ u h2 hu
    · rename_i hb
      obtain ⟨r, h1, h2⟩ := getP_load (z := true) (.inr hb) hs
      exact eload_sound hr ha h1 fun u hu => hk _ u h2 hu
    · exact hs.elim
  · exact hs.elim
theorem storeP_sound (hr : HR φ H n h0 h) {t : TypeId} {a x : AV} {av xv : Value} {κ : PK} {K : KH} (ha : VR φ a av) (hx : VR φ x xv) (hs : storeP t a x H n κ) (hk : ThenP φ h0 κ K) : astore Try.prog t av xv h K := by
  unfold storeP at hs
  split at hs
  · split at hs
    · rename_i l z hb
      obtain ⟨s, h1, h2⟩ := optP_inv hs
      obtain ⟨h3, h4⟩ := bifP_inv h2
      obtain ⟨l', h5, h6⟩ := optP_inv h4
      refine estore_sound hr ha hx (r := undefA) ?_ (hk.then h6)
      simp only [estore, hb, h1, h3, h5]
    · exact hs.elim
  · exact hs.elim
theorem slow3 {κ : PK} {K : KH} {q : Bool} {e e' : AR} {A : Prop} (hk : ThenP φ h0 κ K) (hs : bifP q (Ask e' (mk3 κ)) (optP e (un3 κ)))
    (a : ∀ r H' n', e = some (r, H', n') → Then φ h0 r H' n' K → A) (b : ∀ r H' n', e' = some (r, H', n') → Then φ h0 r H' n' K → A) : A := by
  cases q with
  | true =>
    obtain ⟨r, h1, h2⟩ := Ask.inv hs
    exact b _ _ _ h1 (hk.thenMk h2)
  | false =>
    obtain ⟨r, h1, h2⟩ := optP_inv hs
    exact a _ _ _ h1 (hk.then h2)
theorem pickP_inv {c : AV} {v : Value} {A B : Prop} (hc : VR φ c v) (hs : pickP c A B) : ∃ q, v = .bool q ∧ (q = true → A) ∧ (q = false → B) := by
  unfold pickP at hs
  split at hs
  · exact ⟨true, hc.bool_inv, fun _ => hs, fun k => by cases k⟩
  · exact ⟨false, hc.bool_inv, (fun k => by cases k), fun _ => hs⟩
  · rename_i q; exact ⟨q, hc.sb_inv, hs.t, hs.f⟩
  · exact hs.elim
theorem noCall_ok : ∀ f, COk Try.prog f (noCall f) := fun f args H n v H' n' e => by cases e
theorem slowP_sound (hr : HR φ H n h0 h) (hf : FR φ σ ρ) {o : Op} {κ : PK} {K : KH} (hs : slowP o σ H n κ) (hk : ThenP φ h0 κ K) : astep Try.prog o ρ h K := by
  obtain ⟨⟨v, H', n'⟩, h1, h2⟩ := optP_inv hs
  exact estep_sound noCall_ok hr hf h1 (hk.then h2)
theorem Then.int {κ : PK} {K : KH} {k : IntKind} {a : Int} (hr : HR φ H n h0 h) (hk : ThenP φ h0 κ K) (h1 : κ (.si k a) H n) : K (.int k a) h := hk φ _ H n _ h (PLe.refl _) hr (.si k a) h1
/-- A slice's bounds as known ones. -/
theorem eslice_hd (hf : FR φ σ ρ) {t : TypeId} {x r : AV} {v : Value} {lo hi mx : Option Operand} {K : Value → Prop} (hx : VR φ x v) (e : eslice Try.prog t (hd x) ((lo.map (eev σ)).map hd) ((hi.map (eev σ)).map hd) ((mx.map (eev σ)).map hd) = some r)
    (hk : ∀ u, VR φ r u → K u) : aslice Try.prog t v (lo.map ρ.ev) (hi.map ρ.ev) (mx.map ρ.ev) K := by
  -- three slots that hold the bounds
  have key : ∀ (l h m : Option AV) (lv hv mv : Option Value), (∀ a, l = some a → ∃ u, lv = some u ∧ VR φ a u) → (l = none → lv = none) → (∀ a, h = some a → ∃ u, hv = some u ∧ VR φ a u) → (h = none → hv = none) → (∀ a, m = some a → ∃ u, mv = some u ∧ VR φ a u) → (m = none → mv = none) →
      eslice Try.prog t (hd x) l h m = some r → aslice Try.prog t v lv hv mv K := by
    intro l h m lv hv mv a1 a2 a3 a4 a5 a6 e
    let σ' : AE := ((PM.nil.set l depthE 0).set h depthE 1).set m depthE 2
    let ρ' : Env := fun i => if i = 0 then lv.getD undef else if i = 1 then hv.getD undef else mv.getD undef
    have hf' : FR φ σ' ρ' := fun i a ha => by
      rcases PM.get_set depthE _ 2 i a ha with ⟨rfl, h2⟩ | ⟨h1, h2⟩
      · obtain ⟨u, rfl, h3⟩ := a5 a h2; exact h3
      · rcases PM.get_set depthE _ 1 i a h2 with ⟨rfl, h4⟩ | ⟨h3, h4⟩
        · obtain ⟨u, rfl, h3⟩ := a3 a h4; exact h3
        · rcases PM.get_set depthE _ 0 i a h4 with ⟨rfl, h6⟩ | ⟨h5, h6⟩
          · obtain ⟨u, rfl, h3⟩ := a1 a h6; exact h3
          · cases h6
    have sl : ∀ (i : Nat) (q : Option AV) (qv : Option Value), (∀ a, q = some a → getq (pa i) σ' = a ∧ ∃ u, qv = some u ∧ ρ' i = u) → (q = none → qv = none) → ∃ o : Option Operand, o.map (eev σ') = q ∧ o.map ρ'.ev = qv := fun i q qv b1 b2 => by
      cases q with
      | none => exact ⟨none, rfl, by rw [b2 rfl]; rfl⟩
      | some a =>
        obtain ⟨c1, u, c2, c3⟩ := b1 a rfl
        exact ⟨some (.tmp i), by simp only [Option.map_some, eev, c1], by simp only [Option.map_some, Env.ev, c2, c3]⟩
    obtain ⟨o1, p1, q1⟩ := sl 0 l lv (fun a ha => by subst ha; obtain ⟨u, rfl, _⟩ := a1 a rfl; exact ⟨by cases h <;> cases m <;> rfl, u, rfl, rfl⟩) a2
    obtain ⟨o2, p2, q2⟩ := sl 1 h hv (fun a ha => by subst ha; obtain ⟨u, rfl, _⟩ := a3 a rfl; exact ⟨by cases l <;> cases m <;> rfl, u, rfl, rfl⟩) a4
    obtain ⟨o3, p3, q3⟩ := sl 2 m mv (fun a ha => by subst ha; obtain ⟨u, rfl, _⟩ := a5 a rfl; exact ⟨by cases l <;> cases h <;> rfl, u, rfl, rfl⟩) a6
    rw [← q1, ← q2, ← q3]
    rw [← p1, ← p2, ← p3] at e
    exact eslice_sound hf' hx.hd e hk
  have s1 : ∀ (o : Option Operand) (a : AV), (o.map (eev σ)).map hd = some a → ∃ u, o.map ρ.ev = some u ∧ VR φ a u := fun o a ha => by
    cases o with
    | none => cases ha
    | some y => injection ha with ha; subst ha; exact ⟨_, rfl, (hf.ev y).hd⟩
  have s2 : ∀ o : Option Operand, (o.map (eev σ)).map hd = none → o.map ρ.ev = none := fun o ha => by
    cases o with
    | none => rfl
    | some y => cases ha
  exact key _ _ _ _ _ _ (s1 lo) (s2 lo) (s1 hi) (s2 hi) (s1 mx) (s2 mx) e
variable {call : CP} {κ : PK} {K : KH}
theorem quiet_step {o : Op} (ho : loudOp o = false) (h1 : apure Try.prog o ρ h fun v => K v h) : astep Try.prog o ρ h K := by
  unfold astep; rw [ho]; exact h1
theorem loud_step {o : Op} (ho : loudOp o = true) (h1 : aloud Try.prog o ρ h K) : astep Try.prog o ρ h K := by
  unfold astep; rw [ho]; exact h1
theorem args2 {l : List Operand} {s x : AV} (hf : FR φ σ ρ) (e : l.map (eev σ) = [s, x]) : ∃ v u, l.map ρ.ev = [v, u] ∧ VR φ s v ∧ VR φ x u := by
  have hm := VRs.map hf.ev l
  rw [e] at hm
  obtain ⟨v1, us, h1, h2, h3⟩ := hm.cons_inv
  obtain ⟨v2, ws, h4, h5, h6⟩ := h3.cons_inv
  rw [h4, h6.nil_inv] at h1
  exact ⟨v1, v2, h1, h2, h5⟩
theorem args1 {l : List Operand} {s : AV} (hf : FR φ σ ρ) (e : l.map (eev σ) = [s]) : ∃ v, l.map ρ.ev = [v] ∧ VR φ s v := by
  have hm := VRs.map hf.ev l
  rw [e] at hm
  obtain ⟨v1, us, h1, h2, h3⟩ := hm.cons_inv
  rw [h3.nil_inv] at h1
  exact ⟨v1, h1, h2⟩
theorem callP_sound (hcall : CPok call) (hr : HR φ H n h0 h) (hf : FR φ σ ρ) {c : Call} (hs : callP c call σ H n κ) (hk : ThenP φ h0 κ K) : astep Try.prog (.call c) ρ h K := by
  have hm := VRs.map hf.ev c.args.toList
  have fin : ∀ r u, κ r H n → VR φ r u → K u h := fun r u h1 hu => hk φ r H n u h (PLe.refl _) hr hu h1
  obtain ⟨callee, args, ats⟩ := c
  unfold callP at hs
  dsimp only at hs hm
  split at hs
  · rename_i f
    have hfv := hf.ev f
    split at hs
    · rename_i g a cs q
      rw [q] at hfv
      obtain ⟨a', c', hv, h1, h2⟩ := hfv.fn_inv
      refine loud_step rfl ?_
      show acall Try.prog (ρ.ev f) (args.map ρ.ev) h K
      rw [hv]
      show CallF Try.prog g (a' ++ args.map ρ.ev ++ c') h K
      refine hcall g _ _ _ _ hs φ h0 h _ K hr ?_ hk
      rw [Array.toList_append, Array.toList_append, Array.toList_map]
      exact (h1.append hm).append h2
    · exact hs.elim
  · refine quiet_step rfl ?_
    show qbuiltin Try.prog .len ats.toList (args.toList.map ρ.ev) h fun v => K v h
    split at hs
    · rename_i t x e1 e2
      obtain ⟨v, e3, h1⟩ := args1 hf e2
      rw [e1, e3]
      exact lenP_sound hr h1 hs fun r u => fin r u
    · exact hs.elim
  · refine quiet_step rfl ?_
    show qbuiltin Try.prog .min ats.toList (args.toList.map ρ.ev) h fun v => K v h
    split at hs
    · rename_i x y e2
      obtain ⟨v, u, e3, h1, h2⟩ := args2 hf e2
      rw [e3]
      exact mmP_sound h1 h2 hs fun r u => fin r u
    · exact hs.elim
  · refine quiet_step rfl ?_
    show qbuiltin Try.prog .max ats.toList (args.toList.map ρ.ev) h fun v => K v h
    split at hs
    · rename_i x y e2
      obtain ⟨v, u, e3, h1, h2⟩ := args2 hf e2
      rw [e3]
      exact mmP_sound h1 h2 hs fun r u => fin r u
    · exact hs.elim
  · refine loud_step rfl ?_
    show lbuiltin Try.prog .append ats.toList (args.toList.map ρ.ev) h K
    split at hs
    · rename_i t u s x e1 e2
      obtain ⟨v, w, e3, h1, h2⟩ := args2 hf e2
      rw [e1, e3]
      exact slow3 hk hs (fun _ _ _ e => eappend_sound hr h1 h2 e) (fun _ _ _ e => eappend_sound hr h1.hd h2.hd e)
    · exact hs.elim
  · refine loud_step rfl ?_
    show lbuiltin Try.prog .copy ats.toList (args.toList.map ρ.ev) h K
    split at hs
    · rename_i t u s x e1 e2
      obtain ⟨v, w, e3, h1, h2⟩ := args2 hf e2
      rw [e1, e3]
      exact slow3 hk hs (fun _ _ _ e => ecopy_sound hr h1 h2 e) (fun _ _ _ e => ecopy_sound hr h1.hd h2.hd e)
    · exact hs.elim
  · exact hs.elim
theorem intKindOf_spec {t : TypeId} {k : IntKind} (h : intKindOf Try.prog t = some k) : Try.prog.underlying t = some (.int k) := by
  unfold intKindOf at h
  split at h
  · rename_i e; injection h with h; subst h; exact e
  · cases h
theorem stepP_sound (hcall : CPok call) (hr : HR φ H n h0 h) (hf : FR φ σ ρ) {o : Op} (hs : stepP o call σ H n κ) (hk : ThenP φ h0 κ K) : astep Try.prog o ρ h K := by
  have fin : ∀ r u, κ r H n → VR φ r u → K u h := fun r u h1 hu => hk φ r H n u h (PLe.refl _) hr hu h1
  unfold stepP at hs
  split at hs
  · exact quiet_step rfl (fin _ _ hs (hf.ev _))
  · exact quiet_step rfl (fin _ _ hs (hf.ev _))
  · rename_i c a b
    obtain ⟨q, h1, h2, h3⟩ := pickP_inv (hf.ev c) hs
    refine quiet_step rfl ?_
    simp only [apure, h1]
    cases q with
    | true => exact fin _ _ (h2 rfl) (hf.ev _)
    | false => exact fin _ _ (h3 rfl) (hf.ev _)
  · exact quiet_step rfl (loadP_sound hr (hf.ev _) hs fun r u => fin r u)
  · exact loud_step rfl (storeP_sound hr (hf.ev _) (hf.ev _) hs hk)
  · exact quiet_step rfl (binP_sound hr (hf.ev _) (hf.ev _) hs fun r u => fin r u)
  · exact quiet_step rfl (unP_sound (hf.ev _) hs fun r u => fin r u)
  · exact quiet_step rfl (indexAddrP_sound (hf.ev _) (hf.ev _) hs fun r u => fin r u)
  · exact quiet_step rfl (indexP_sound (hf.ev _) (hf.ev _) hs fun r u => fin r u)
  · rename_i t x lo hi mx
    refine quiet_step rfl ?_
    show aslice Try.prog t (ρ.ev x) (lo.map ρ.ev) (hi.map ρ.ev) (mx.map ρ.ev) fun v => K v h
    unfold sliceP at hs
    cases hq : (isS (eev σ x) || (sliceP.optS (lo.map (eev σ)) || (sliceP.optS (hi.map (eev σ)) || sliceP.optS (mx.map (eev σ))))) with
    | true =>
      rw [hq] at hs
      obtain ⟨r, h1, h2⟩ := Ask.inv hs
      exact eslice_hd hf (hf.ev x) h1 fun u hu => fin _ u h2 hu.mk
    | false =>
      rw [hq] at hs
      obtain ⟨r, h1, h2⟩ := optP_inv hs
      exact eslice_sound hf (hf.ev x) h1 fun u hu => fin _ u h2 hu
  · exact loud_step rfl (slow3 hk hs (fun _ _ _ e => emake_sound hr (hf.ev _) (hf.ev _) e) (fun _ _ _ e => emake_sound hr (hf.ev _).hd (hf.ev _).hd e))
  · rename_i s d x
    refine loud_step rfl ?_
    show aconv Try.prog s d (ρ.ev x) h K
    unfold convP at hs
    split at hs
    · rename_i a q
      have hx := hf.ev x
      rw [q] at hx
      rw [hx.si_inv]
      split at hs
      · rename_i k1 k2 e1 e2
        simp only [aconv, intKindOf_spec e1, intKindOf_spec e2]
        exact fin _ _ hs (.si _ _)
      · exact hs.elim
    · exact slow3 hk hs (fun _ _ _ e => econv_sound hr (hf.ev x) e) (fun _ _ _ e => econv_sound hr (hf.ev x).hd e)
  · exact callP_sound hcall hr hf hs hk
  · exact slowP_sound hr hf hs hk
end
end Go.Proofs.Ytaejmcgcfopmkaa
namespace Go.Proofs.Ytaejmcgcfopmkaa
open Go Go.RowKit
/-- One outcome. -/
def Sg {α : Type} (m : (α → Prop) → Prop) : Prop := ∀ κ, m κ → ∃ v, κ v ∧ ∀ κ' : α → Prop, κ' v → m κ'
section
variable {α β : Type}
theorem Sg.one (a : α) : Sg (fun κ => κ a) := fun _ h => ⟨a, h, fun _ h => h⟩
theorem Sg.no : Sg (fun _ : α → Prop => False) := fun _ h => h.elim
theorem Sg.opt (o : Option α) : Sg (fun κ => optP o κ) := fun κ h => by
  obtain ⟨a, rfl, k⟩ := optP_inv h
  exact ⟨a, k, fun _ h => h⟩
theorem Sg.ask (o : Option α) : Sg (fun κ => Ask o κ) := fun _ ⟨a, h, k⟩ => ⟨a, k, fun _ k' => ⟨a, h, k'⟩⟩
theorem Sg.idx (i : Int) (len : Nat) : Sg (fun κ => Idx i len κ) := fun _ ⟨j, h, lt, k⟩ => ⟨j, k, fun _ k' => ⟨j, h, lt, k'⟩⟩
theorem Sg.bind {m : (α → Prop) → Prop} {k : α → (β → Prop) → Prop} (hm : Sg m) (hk : ∀ a, Sg (k a)) : Sg (fun κ => m (fun a => k a κ)) := fun κ h => by
  obtain ⟨a, h1, h2⟩ := hm _ h
  obtain ⟨v, h3, h4⟩ := hk a _ h1
  exact ⟨v, h3, fun κ' k' => h2 _ (h4 _ k')⟩
theorem Sg.map {m : (α → Prop) → Prop} (f : α → β) (hm : Sg m) : Sg (fun κ => m (fun a => κ (f a))) := hm.bind fun a => Sg.one (f a)
theorem Sg.optb {k : α → (β → Prop) → Prop} (o : Option α) (hk : ∀ a, Sg (k a)) : Sg (fun κ => optP o fun a => k a κ) := Sg.bind (Sg.opt o) hk
theorem Sg.bif {b : Bool} {m : (α → Prop) → Prop} (hm : Sg m) : Sg (fun κ => bifP b (m κ) False) := by
  cases b
  · exact Sg.no
  · exact hm
theorem Sg.bif2 {b : Bool} {m m' : (α → Prop) → Prop} (hm : Sg m) (hm' : Sg m') : Sg (fun κ => bifP b (m κ) (m' κ)) := by
  cases b
  · exact hm'
  · exact hm
theorem Sg.bifn {b : Bool} {m : (α → Prop) → Prop} (hm : Sg m) : Sg (fun κ => bifP b False (m κ)) := Sg.bif2 Sg.no hm
theorem Sg.and {p : Prop} {m : (α → Prop) → Prop} (hm : Sg m) : Sg (fun κ => p ∧ m κ) := fun κ ⟨h1, h2⟩ => by
  obtain ⟨v, h3, h4⟩ := hm κ h2
  exact ⟨v, h3, fun κ' k' => ⟨h1, h4 κ' k'⟩⟩
theorem Sg.fork {q : Bool} {m m' : (α → Prop) → Prop} (hm : Sg m) (hm' : Sg m') : Sg (fun κ => Fork q (m κ) (m' κ)) := fun κ h => by
  cases q with
  | true =>
    obtain ⟨v, h3, h4⟩ := hm κ (h.t rfl)
    exact ⟨v, h3, fun κ' k' => ⟨fun _ => h4 κ' k', fun q => by cases q⟩⟩
  | false =>
    obtain ⟨v, h3, h4⟩ := hm' κ (h.f rfl)
    exact ⟨v, h3, fun κ' k' => ⟨(fun q => by cases q), fun _ => h4 κ' k'⟩⟩
theorem Sg.pick (c a b : AV) : Sg (fun κ => pickP c (κ a) (κ b)) := by
  cases c
  case bool q => cases q <;> exact Sg.one _
  case sb q => exact Sg.fork (Sg.one _) (Sg.one _)
  all_goals exact Sg.no
end
theorem Sg.sym {op : BinOp} {k j : IntKind} {a b : Int} {c : Bool} : Sg (fun κ => symP op k j a b c κ) := by
  cases op
  case shl => cases c <;> first | exact Sg.and (Sg.one _) | exact Sg.bifn (Sg.one _)
  case shr => cases c <;> first | exact Sg.and (Sg.one _) | exact Sg.bifn (Sg.one _)
  case quo => cases c <;> first | exact Sg.bif (Sg.and (Sg.one _)) | exact Sg.bif (Sg.bifn (Sg.one _))
  case rem => cases c <;> first | exact Sg.bif (Sg.and (Sg.one _)) | exact Sg.bif (Sg.bifn (Sg.one _))
  all_goals exact Sg.bif (Sg.one _)
theorem Sg.str {op : BinOp} {a b : List Nat} : Sg (fun κ => strP op a b κ) := by
  cases op
  case add => exact Sg.and (Sg.one _)
  all_goals first | exact Sg.one _ | exact Sg.no
theorem Sg.bol {op : BinOp} {t : TypeId} {a b : Bool} : Sg (fun κ => bolP op t a b κ) := by
  cases op <;> first | exact Sg.bif (Sg.one _) | exact Sg.bif Sg.no
theorem Sg.bin {op : BinOp} {t : TypeId} {x y : AV} {H : AH} : Sg (fun κ => binP op t x y H κ) := by
  unfold binP
  split <;> first | exact Sg.sym | exact Sg.str | exact Sg.bol | exact Sg.bif2 (Sg.map mk (Sg.opt _)) (Sg.opt _) | exact Sg.opt _
theorem Sg.un {op : UnOp} {x : AV} : Sg (fun κ => unP op x κ) := by
  unfold unP
  split <;> first | exact Sg.one _ | exact Sg.opt _
theorem Sg.mm {q : Bool} {x y : AV} : Sg (fun κ => mmP q x y κ) := by
  unfold mmP
  split <;> first | exact Sg.one _ | exact Sg.opt _
theorem Sg.len {t : TypeId} {x : AV} {H : AH} : Sg (fun κ => lenP t x H κ) := by
  unfold lenP
  split <;> first | exact Sg.map mk (Sg.opt _) | exact Sg.opt _
theorem Sg.ix {ix : AV} {len : Nat} {s : Bool} : Sg (fun κ => ixP ix len s κ) := by
  unfold ixP
  split <;> first | exact Sg.idx _ _ | exact Sg.opt _
theorem Sg.indexAddr {t : TypeId} {x ix : AV} : Sg (fun κ => indexAddrP t x ix κ) := by
  have h : ∀ κ, indexAddrP t x ix κ = (match Try.prog.underlying t, x with
    | some (.slice e), .sl b o n _ _ => optP (tySize Try.prog e) fun k => ixP ix n false fun i => κ (.ptr b (o + i * k))
    | some (.slice e), .sy b o n _ _ => optP (tySize Try.prog e) fun k => ixP ix n true fun i => κ (.ptr b (o + i * k))
    | some (.array len e), .ptr b o => optP (tySize Try.prog e) fun k => ixP ix len false fun i => κ (.ptr b (o + i * k))
    | _, _ => False) := fun _ => rfl
  simp only [h]
  split <;> first | exact Sg.no | exact Sg.optb _ fun k => Sg.map _ Sg.ix
theorem Sg.index {t : TypeId} {x ix : AV} : Sg (fun κ => indexP t x ix κ) := by
  have h : ∀ κ, indexP t x ix κ = (match Try.prog.underlying t, x with
    | some (.array len e), .agg l => optP (tySize Try.prog e) fun k => ixP ix len false fun i => optP (epart Try.prog e l (i * k)) κ
    | some .string, .str s => ixP ix s.length false fun i => optP (nth s i) fun c => (match ix with
      | .int _ _ => κ (.int .u8 (Int.ofNat c))
      | _ => κ (.si .u8 (Int.ofNat c)))
    | some .string, .ss s => ixP ix s.length true fun i => Ask (nth s i) fun c => κ (.si .u8 (Int.ofNat c))
    | _, _ => False) := fun _ => rfl
  simp only [h]
  split
  · exact Sg.optb _ fun k => Sg.bind Sg.ix fun i => Sg.opt _
  · refine Sg.bind Sg.ix fun i => Sg.optb _ fun c => ?_
    split <;> exact Sg.one _
  · exact Sg.bind Sg.ix fun i => Sg.map _ (Sg.ask _)
  · exact Sg.no
theorem Sg.get {l : List AV} {t : TypeId} {o : Nat} : Sg (fun κ => getP l t o κ) := by
  have h : ∀ κ, getP l t o κ = (match tyAgg Try.prog t with
    | some false => optP (nth l o) κ
    | some true => optP (tySize Try.prog t) fun m => optP (subL l o m) fun r => κ (.agg r)
    | none => False) := fun _ => rfl
  simp only [h]
  split
  · exact Sg.opt _
  · exact Sg.optb _ fun m => Sg.map _ (Sg.opt _)
  · exact Sg.no
theorem Sg.load {t : TypeId} {a : AV} {H : AH} : Sg (fun κ => loadP t a H κ) := by
  have h : ∀ κ, loadP t a H κ = (match a with
    | .ptr b o => (match H.get b with
      | some (.cells l _) => getP l t o κ
      | some (.ro l) => getP l t o κ
      | _ => False)
    | _ => False) := fun _ => rfl
  simp only [h]
  split
  · split <;> first | exact Sg.get | exact Sg.no
  · exact Sg.no
theorem Sg.slice {t : TypeId} {x : AV} {lo hi mx : Option AV} : Sg (fun κ => sliceP t x lo hi mx κ) := Sg.bif2 (Sg.map mk (Sg.ask _)) (Sg.opt _)
theorem Sg.q {o : Op} {σ : AE} {H : AH} : Sg (fun κ => qP o σ H κ) := by
  unfold qP
  split
  · exact Sg.one _
  · exact Sg.one _
  · exact Sg.pick _ _ _
  · exact Sg.load
  · exact Sg.bin
  · exact Sg.un
  · exact Sg.indexAddr
  · exact Sg.index
  · exact Sg.slice
  · split <;> first | exact Sg.len | exact Sg.no
  · split <;> first | exact Sg.mm | exact Sg.no
  · split <;> first | exact Sg.mm | exact Sg.no
  · exact Sg.opt _
section
variable {φ : Ph} {H : AH} {n : Nat} {h0 h : Hp} {σ : AE} {ρ : Env} {cd : CP}
theorem qP_sound (hr : HR φ H n h0 h) (hf : FR φ σ ρ) {o : Op} {κ : AV → Prop} {K : Value → Prop} (hs : qP o σ H κ) (hk : ∀ r u, κ r → VR φ r u → K u) : apure Try.prog o ρ h K := by
  have slow : optP (epure Try.prog o σ H) κ → apure Try.prog o ρ h K := fun hs => by
    obtain ⟨r, h1, h2⟩ := optP_inv hs
    exact epure_sound hr hf h1 fun u hu => hk _ u h2 hu
  unfold qP at hs
  split at hs
  · exact hk _ _ hs (hf.ev _)
  · exact hk _ _ hs (hf.ev _)
  · rename_i c a b
    obtain ⟨q, h1, h2, h3⟩ := pickP_inv (hf.ev c) hs
    simp only [apure, h1]
    cases q with
    | true => exact hk _ _ (h2 rfl) (hf.ev _)
    | false => exact hk _ _ (h3 rfl) (hf.ev _)
  · exact loadP_sound hr (hf.ev _) hs hk
  · exact binP_sound hr (hf.ev _) (hf.ev _) hs hk
  · exact unP_sound (hf.ev _) hs hk
  · exact indexAddrP_sound (hf.ev _) (hf.ev _) hs hk
  · exact indexP_sound (hf.ev _) (hf.ev _) hs hk
  · rename_i t x lo hi mx
    show aslice Try.prog t (ρ.ev x) (lo.map ρ.ev) (hi.map ρ.ev) (mx.map ρ.ev) K
    unfold sliceP at hs
    cases hq : (isS (eev σ x) || (sliceP.optS (lo.map (eev σ)) || (sliceP.optS (hi.map (eev σ)) || sliceP.optS (mx.map (eev σ))))) with
    | true =>
      rw [hq] at hs
      obtain ⟨r, h1, h2⟩ := Ask.inv hs
      exact eslice_hd hf (hf.ev x) h1 fun u hu => hk _ u h2 hu.mk
    | false =>
      rw [hq] at hs
      obtain ⟨r, h1, h2⟩ := optP_inv hs
      exact eslice_sound hf (hf.ev x) h1 fun u hu => hk _ u h2 hu
  · rename_i xs ts
    show qbuiltin Try.prog .len ts.toList (xs.toList.map ρ.ev) h K
    split at hs
    · rename_i t x e1 e2
      obtain ⟨v, e3, h1⟩ := args1 hf e2
      rw [e1, e3]
      exact lenP_sound hr h1 hs hk
    · exact hs.elim
  · rename_i xs ts
    show qbuiltin Try.prog .min ts.toList (xs.toList.map ρ.ev) h K
    split at hs
    · rename_i x y e2
      obtain ⟨v, u, e3, h1, h2⟩ := args2 hf e2
      rw [e3]
      exact mmP_sound h1 h2 hs hk
    · exact hs.elim
  · rename_i xs ts
    show qbuiltin Try.prog .max ts.toList (xs.toList.map ρ.ev) h K
    split at hs
    · rename_i x y e2
      obtain ⟨v, u, e3, h1, h2⟩ := args2 hf e2
      rw [e3]
      exact mmP_sound h1 h2 hs hk
    · exact hs.elim
  · exact slow hs
theorem getq_setq {v : AV} : ∀ {p : Pa} {σ : AE}, getq p σ ≠ .bad → getq p (setq v p σ) = v
  | .stop, σ, h => (h rfl).elim
  | .here, .nil, h => rfl
  | .here, .node _ _ _, h => rfl
  | .lo p, .nil, h => (h rfl).elim
  | .lo p, .node l u r, h => getq_setq (p := p) (σ := l) h
  | .hi p, .nil, h => (h rfl).elim
  | .hi p, .node l u r, h => getq_setq (p := p) (σ := r) h
def GrowsA (H H' : AH) : Prop := ∀ b o, H.get b = some o → H'.get b = some o
theorem GrowsA.refl (H : AH) : GrowsA H H := fun _ _ h => h
theorem GrowsA.trans {A B C : AH} (h : GrowsA A B) (k : GrowsA B C) : GrowsA A C := fun b o e => k b o (h b o e)
theorem HR.less {H' : AH} (hr : HR φ H' n h0 h) (hg : GrowsA H H') : HR φ H n h0 h :=
  ⟨hr.dom, fun b o hb => hr.live b o (hg b o hb), fun b b' o o' p p' hb hb' => hr.inj b b' o o' p p' (hg _ _ hb) (hg _ _ hb'), hr.base, hr.size⟩
/-- A call has one outcome, and leaves what there was. -/
def CSing (cd : CP) : Prop := ∀ f args H n κ, cd f args H n κ → ∃ v H' n', κ v H' n' ∧ GrowsA H H' ∧ n ≤ n' ∧ ∀ κ' : PK, κ' v H' n' → cd f args H n κ'
def SlotR (φ : Ph) (σ : AE) (ts : List Nat) (ρ : Env) : Prop := ∀ t ∈ ts, VR φ (getq (pa t) σ) (ρ t)
theorem filtq_FR : ∀ {ts : List Nat}, SlotR φ σ ts ρ → FR φ (filtq σ ts) ρ
  | [], _, t, a, h => by cases h
  | s :: ts, hs, t, a, h => by
    have h : (setq (getq (pa s) σ) (pa s) (filtq σ ts)).get t = some a := h
    rcases setq_get depthE _ s t a h with ⟨rfl, h2⟩ | ⟨_, h2⟩
    · rw [← h2]; exact hs _ List.mem_cons_self
    · exact filtq_FR (fun x hx => hs x (List.mem_cons_of_mem _ hx)) t a h2
def StillF (ops : Array Oper) (o : Oper) (ts : List Nat) (σ : AE) (H : AH) (v : AV) : Prop := ∀ (φ : Ph) (n : Nat) (h0 h : Hp) (ρ : Env) (K : Env → Hp → Prop), HR φ H n h0 h → SlotR φ σ ts ρ → (∀ u, VR φ v u → K (ρ.put o.dst u) h) → gstep Try.prog ops o ρ h K
def LoudF (ops : Array Oper) (o : Oper) (ts : List Nat) (σ : AE) (H : AH) (n : Nat) (v : AV) (H' : AH) (n' : Nat) : Prop := ∀ (φ : Ph) (h0 h : Hp) (ρ : Env) (K : Env → Hp → Prop), HR φ H n h0 h → SlotR φ σ ts ρ →
  (∀ ψ u g, PLe φ ψ → HR ψ H' n' h0 g → VR ψ v u → K (ρ.put o.dst u) g) → gstep Try.prog ops o ρ h K
/-- What stands for a slot stands for it by another value too. -/
def Sup (x : Option AV) (a : AV) : Prop := ∀ φ u, (∀ a', x = some a' → VR φ a' u) → VR φ a u
theorem Sup.refl {x : Option AV} {a : AV} (h : x = some a) : Sup x a := fun φ u k => k a h
theorem Sup.trans {x y : Option AV} {a : AV} (h : ∀ b, y = some b → Sup x b) (k : Sup y a) : Sup x a := fun φ u q => k φ u fun b hb => h b hb φ u q
structure StepOk (ops : Array Oper) (o : Oper) (b : DB) (hist : List (AH × Nat)) (σ : AE) (H : AH) (n : Nat) (σr : AE) (v : AV) (H1 : AH) (n1 : Nat) : Prop where
  sup : ∀ t a, σr.get t = some a → Sup (σ.get t) a
  grow : GrowsA H H1
  le : n ≤ n1
  loud : loudOp o.op = true → LoudF ops o b.2 σr H n v H1 n1
  still : loudOp o.op = false → H1 = H ∧ n1 = n ∧ ∃ G, (∀ k r, b.1 = some k → nth ((H, n) :: hist) k = some r → G = r.1) ∧ StillF ops o b.2 σr G v
def bOk (o : Oper) (b : DB) : Prop := match b.1 with
  | none => isCallV o.op = true
  | some _ => loudOp o.op = false
theorem dynOp_step (hcd : CPok cd) (hcs : CSing cd) {ops : Array Oper} {o : Oper} {b : DB} {hist : List (AH × Nat)} {k : KP} (hb : bOk o b) (hgs : gslotIn ops o b.2 = true) (hs : dynOp ops o b cd hist σ H n k) :
    ∃ σr v H1 n1, StepOk ops o b hist σ H n σr v H1 n1 ∧ k (eput σr o.dst v) H1 n1 := by
  let go : AE → Prop := fun σ => (match b.1 with
    | none => (match o.op with
      | .call c => callP c cd (filtq σ b.2) H n fun v H n => k (eput σ o.dst v) H n
      | _ => False)
    | some j => optP (nth ((H, n) :: hist) j) fun r => qP o.op (filtq σ b.2) r.1 fun v => k (eput σ o.dst v) H n)
  have did : ∀ σr, (∀ t a, σr.get t = some a → Sup (σ.get t) a) → (∀ φ ρ h K, SlotR φ σr b.2 ρ → astep Try.prog o.op ρ h (fun v h' => K (ρ.put o.dst v) h') → gstep Try.prog ops o ρ h K) → go σr →
      ∃ σr v H1 n1, StepOk ops o b hist σ H n σr v H1 n1 ∧ k (eput σr o.dst v) H1 n1 := by
    intro σr hsup hg hs
    unfold bOk at hb
    simp only [go] at hs
    cases hb1 : b.1 with
    | none =>
      rw [hb1] at hs hb
      dsimp only at hs hb
      split at hs
      · rename_i c hop
        obtain ⟨callee, args, ats⟩ := c
        rw [hop] at hb
        cases callee with
        | builtin _ => cases hb
        | invoke _ _ => cases hb
        | value f =>
          unfold callP at hs
          dsimp only at hs
          split at hs
          · rename_i g a cs q
            obtain ⟨v, H', n', h1, h2, h3, h4⟩ := hcs _ _ _ _ _ hs
            refine ⟨σr, v, H', n', ⟨hsup, h2, h3, fun _ => ?_, fun hl => ?_⟩, h1⟩
            · intro φ h0 h ρ K hr hsl hk
              refine hg φ ρ h K hsl ?_
              have hs2 : callP ⟨.value f, args, ats⟩ cd (filtq σr b.2) H n fun v2 H2 n2 => v2 = v ∧ H2 = H' ∧ n2 = n' := by
                unfold callP
                dsimp only
                rw [q]
                exact h4 _ ⟨rfl, rfl, rfl⟩
              rw [hop]
              exact callP_sound hcd hr (filtq_FR hsl) hs2 fun ψ v2 H2 n2 u g q1 q2 q3 ⟨e1, e2, e3⟩ => by
                rw [e1] at q3
                rw [e2, e3] at q2
                exact hk ψ u g q1 q2 q3
            · rw [hop] at hl; cases hl
          · exact hs.elim
      · exact hs.elim
    | some j =>
      rw [hb1] at hs hb
      dsimp only at hs hb
      obtain ⟨r, h1, h2⟩ := optP_inv hs
      obtain ⟨v, h3, h4⟩ := Sg.q _ h2
      refine ⟨σr, v, H, n, ⟨hsup, .refl _, Nat.le_refl _, fun hl => (by rw [hl] at hb; cases hb), fun _ => ⟨rfl, rfl, r.1, fun k' r' e1 e2 => ?_, ?_⟩⟩, h3⟩
      · rw [hb1] at e1
        injection e1 with e1
        subst e1
        rw [h1] at e2
        injection e2 with e2
        rw [e2]
      · intro φ n h0 h ρ K hr hsl hk
        refine hg φ ρ h K hsl (quiet_step hb ?_)
        exact qP_sound hr (filtq_FR hsl) (h4 (fun x => x = v) rfl) fun r u e hu => by
          subst e
          exact hk u hu
  have skip : ∀ σr, (∀ t a, σr.get t = some a → Sup (σ.get t) a) → (∀ φ ρ h K, SlotR φ σr b.2 ρ → K (ρ.put o.dst undef) h → gstep Try.prog ops o ρ h K) → k (eput σr o.dst undefA) H n →
      ∃ σr v H1 n1, StepOk ops o b hist σ H n σr v H1 n1 ∧ k (eput σr o.dst v) H1 n1 := by
    intro σr hsup hg hs
    refine ⟨σr, undefA, H, n, ⟨hsup, .refl _, Nat.le_refl _, fun hl => ?_, fun _ => ?_⟩, hs⟩
    · intro φ h0 h ρ K hr hsl hk
      exact hg φ ρ h K hsl (hk φ undef h (PLe.refl _) hr .undef)
    · refine ⟨rfl, rfl, (match b.1 with
        | some k => (match nth ((H, n) :: hist) k with
          | some r => r.1
          | none => H)
        | none => H), fun k r e1 e2 => by rw [e1]; dsimp only; rw [e2], ?_⟩
      intro φ n h0 h ρ K hr hsl hk
      exact hg φ ρ h K hsl (hk undef .undef)
  have same : ∀ t a, σ.get t = some a → Sup (σ.get t) a := fun t a h => .refl h
  have put : ∀ (t : Nat) (q : Bool), getq (pa t) σ = .sb q → ∀ s a, (eput σ (some t) (.bool q)).get s = some a → Sup (σ.get s) a := fun t q hq s a hg => by
    rcases setq_get depthE σ t s a hg with ⟨rfl, h2⟩ | ⟨_, h2⟩
    · subst h2
      intro φ u hu
      rcases getq_some depthE s σ _ hq with e | e
      · cases e
      · have := (hu _ e).sb_inv
        subst this
        exact .bool q
    · exact .refl h2
  have hs : (match o.guard with
    | none => go σ
    | some (j, want) => (match gslot ops j with
      | none => False
      | some t => (match getq (pa t) σ with
        | .bool q => (match q == want with
          | true => go σ
          | false => k (eput σ o.dst undefA) H n)
        | .sb q => (match want with
          | true => Fork q (go (eput σ (some t) (.bool true))) (k (eput (eput σ (some t) (.bool false)) o.dst undefA) H n)
          | false => Fork q (k (eput (eput σ (some t) (.bool true)) o.dst undefA) H n) (go (eput σ (some t) (.bool false))))
        | .tup _ => k (eput σ o.dst undefA) H n
        | _ => False))) := hs
  split at hs
  · rename_i hg
    exact did σ same (fun φ ρ h K _ ha => by unfold gstep; simp only [hg]; exact ha) hs
  · rename_i j want hg
    split at hs
    · exact hs.elim
    · rename_i t ht
      have htm : t ∈ b.2 := by
        unfold gslotIn at hgs
        rw [hg] at hgs
        dsimp only at hgs
        rw [ht] at hgs
        simpa using hgs
      have gw : ∀ (ρ : Env) (h : Hp) (K : Env → Hp → Prop), ρ t = .bool want → astep Try.prog o.op ρ h (fun v h' => K (ρ.put o.dst v) h') → gstep Try.prog ops o ρ h K := fun ρ h K hv ha => by
        unfold gstep; simp only [hg, ht, hv]
        rw [if_pos trivial]; exact ha
      have gn : ∀ (ρ : Env) (h : Hp) (K : Env → Hp → Prop), ρ t = .bool (!want) → K (ρ.put o.dst undef) h → gstep Try.prog ops o ρ h K := fun ρ h K hv ha => by
        unfold gstep; simp only [hg, ht, hv]
        rw [if_neg (by cases want <;> simp)]; exact ha
      split at hs
      · rename_i q hq
        split at hs
        · rename_i hqw
          have hqw2 : q = want := by simpa using hqw
          subst hqw2
          exact did σ same (fun φ ρ h K hsl ha => gw ρ h K (by have := hsl t htm; rw [hq] at this; exact this.bool_inv) ha) hs
        · rename_i hqw
          have hqw2 : q = !want := by cases q <;> cases want <;> simp_all
          exact skip σ same (fun φ ρ h K hsl ha => gn ρ h K (by have := hsl t htm; rw [hq] at this; rw [this.bool_inv, hqw2]) ha) hs
      · rename_i q hq
        -- the slot, by which way it is
        have gb : ∀ (q' : Bool), getq (pa t) (eput σ (some t) (.bool q')) = .bool q' := fun q' => by
          exact getq_setq (by rw [hq]; simp)
        split at hs
        · cases q with
          | true => exact did _ (put t true hq) (fun φ ρ h K hsl ha => gw ρ h K (by have := hsl t htm; rw [gb] at this; exact this.bool_inv) ha) (hs.t rfl)
          | false => exact skip _ (put t false hq) (fun φ ρ h K hsl ha => gn ρ h K (by have := hsl t htm; rw [gb] at this; rw [this.bool_inv]; rfl) ha) (hs.f rfl)
        · cases q with
          | true => exact skip _ (put t true hq) (fun φ ρ h K hsl ha => gn ρ h K (by have := hsl t htm; rw [gb] at this; rw [this.bool_inv]; rfl) ha) (hs.t rfl)
          | false => exact did _ (put t false hq) (fun φ ρ h K hsl ha => gw ρ h K (by have := hsl t htm; rw [gb] at this; exact this.bool_inv) ha) (hs.f rfl)
      · rename_i us hq
        refine skip σ same (fun φ ρ h K hsl ha => ?_) hs
        have := hsl t htm
        rw [hq] at this
        obtain ⟨cs, hv, _⟩ := this.tup_inv
        unfold gstep; simp only [hg, ht, hv]
        exact ha
      · exact hs.elim
end
end Go.Proofs.Ytaejmcgcfopmkaa
namespace Go.Proofs.Ytaejmcgcfopmkaa
open Go Go.RowKit
structure TR where
  v : AV
  σ : AE
  H : AH
  n : Nat
inductive Tr (ops : Array Oper) : List Oper → List DB → List (AH × Nat) → AE → AH → Nat → List TR → AE → AH → Nat → Prop
  | nil {bs : List DB} {hist : List (AH × Nat)} {σ : AE} {H : AH} {n : Nat} : Tr ops [] bs hist σ H n [] σ H n
  | cons {o : Oper} {l : List Oper} {b : DB} {bs : List DB} {hist : List (AH × Nat)} {σ : AE} {H : AH} {n : Nat} {σr : AE} {v : AV} {H1 : AH} {n1 : Nat} {tr : List TR} {σ' : AE} {H' : AH} {n' : Nat}
    (s : StepOk ops o b hist σ H n σr v H1 n1) (r : Tr ops l bs ((H, n) :: hist) (eput σr o.dst v) H1 n1 tr σ' H' n') : Tr ops (o :: l) (b :: bs) hist σ H n (⟨v, σr, H, n⟩ :: tr) σ' H' n'
section
variable {φ : Ph} {h0 h : Hp} {ρ : Env} {cd : CP} {ops : Array Oper}
theorem dynL_tr (hcd : CPok cd) (hcs : CSing cd) {kn : KP} : ∀ (l : List Oper) (bs : List DB) (hist : List (AH × Nat)) (σ : AE) (H : AH) (n : Nat), (∀ (i : Nat) o b, l[i]? = some o → bs[i]? = some b → bOk o b ∧ gslotIn ops o b.2 = true) → dynL ops l bs cd hist σ H n kn →
    ∃ tr σ' H' n', Tr ops l bs hist σ H n tr σ' H' n' ∧ kn σ' H' n'
  | [], bs, hist, σ, H, n, _, hs => ⟨[], σ, H, n, .nil, hs⟩
  | o :: l, [], hist, σ, H, n, _, hs => hs.elim
  | o :: l, b :: bs, hist, σ, H, n, hb, hs => by
    have hs : dynOp ops o b cd hist σ H n (fun σ' H' n' => dynL ops l bs cd ((H, n) :: hist) σ' H' n' kn) := hs
    obtain ⟨h1, h2⟩ := hb 0 o b rfl rfl
    obtain ⟨σr, v, H1, n1, h3, h4⟩ := dynOp_step hcd hcs h1 h2 hs
    obtain ⟨tr, σ', H', n', h5, h6⟩ := dynL_tr hcd hcs l bs _ _ H1 n1 (fun i o b e1 e2 => hb (i + 1) o b (by simpa using e1) (by simpa using e2)) h4
    exact ⟨_, σ', H', n', .cons h3 h5, h6⟩
theorem tr_length {l : List Oper} {bs : List DB} {hist : List (AH × Nat)} {σ : AE} {H : AH} {n : Nat} {tr : List TR} {σ' : AE} {H' : AH} {n' : Nat} (ht : Tr ops l bs hist σ H n tr σ' H' n') : tr.length = l.length := by
  induction ht with
  | nil => rfl
  | cons s r ih => simp [ih]
/-- What is told of one operation. -/
structure At (ops : Array Oper) (Bs : List DB) (σ0 : AE) (val : Nat → AV) (σs : Nat → AE) (Hs : Nat → AH) (ns : Nat → Nat) (i : Nat) (o : Oper) : Prop where
  look : ∀ t a, (σs i).get t = some a → Sup (curN ops val σ0 (fun _ => true) i t) a
  grow : GrowsA (Hs i) (Hs (i + 1))
  bs : ∃ b, Bs[i]? = some b ∧ (loudOp o.op = true → LoudF ops o b.2 (σs i) (Hs i) (ns i) (val i) (Hs (i + 1)) (ns (i + 1))) ∧
    (loudOp o.op = false → Hs (i + 1) = Hs i ∧ ns (i + 1) = ns i ∧ ∀ k, b.1 = some k → k ≤ i → StillF ops o b.2 (σs i) (Hs (i - k)) (val i))
theorem tr_told {Bs : List DB} {σ0 : AE} {val : Nat → AV} {σs : Nat → AE} {Hs : Nat → AH} {ns : Nat → Nat} {l : List Oper} {bs : List DB} {hist : List (AH × Nat)} {σ : AE} {H : AH} {n : Nat} {tr : List TR} {σ' : AE} {H' : AH} {n' : Nat} (ht : Tr ops l bs hist σ H n tr σ' H' n') :
    ∀ k, (∀ j : Nat, l[j]? = ops[k + j]?) → (∀ j : Nat, bs[j]? = Bs[k + j]?) → (∀ t a, σ.get t = some a → Sup (curN ops val σ0 (fun _ => true) k t) a) → (∀ j, j < k → nth hist j = some (Hs (k - 1 - j), ns (k - 1 - j))) → H = Hs k → n = ns k →
    (∀ (j : Nat) e, tr[j]? = some e → val (k + j) = e.v ∧ σs (k + j) = e.σ ∧ Hs (k + j) = e.H ∧ ns (k + j) = e.n) → Hs (k + l.length) = H' → ns (k + l.length) = n' →
    (∀ i o, k ≤ i → i < k + l.length → ops[i]? = some o → At ops Bs σ0 val σs Hs ns i o) ∧ tr.length = l.length ∧ ∀ t a, σ'.get t = some a → Sup (curN ops val σ0 (fun _ => true) (k + l.length) t) a := by
  induction ht with
  | nil => exact fun k _ _ hσ _ _ _ _ _ _ => ⟨fun i o h1 h2 => by simp at h2; omega, rfl, hσ⟩
  | @cons o l b bs hist σ H n σr v H1 n1 tr σ' H' n' s r ih =>
    intro k hl hb hσ hh hH hn htr hH' hn'
    have ho : ops[k]? = some o := by simpa using (hl 0).symm
    have hbk : Bs[k]? = some b := by simpa using (hb 0).symm
    obtain ⟨t1, t3, t4, t5⟩ := htr 0 _ rfl
    simp only [Nat.add_zero] at t1 t3 t4 t5
    have hH1 : H1 = Hs (k + 1) ∧ n1 = ns (k + 1) := by
      cases r with
      | nil => exact ⟨by simpa using hH'.symm, by simpa using hn'.symm⟩
      | cons s2 r2 =>
        obtain ⟨_, _, q4, q5⟩ := htr 1 _ rfl
        exact ⟨q4.symm, q5.symm⟩
    have hσr : ∀ t a, σr.get t = some a → Sup (curN ops val σ0 (fun _ => true) k t) a := fun t a hg => Sup.trans (fun b hb => hσ t b hb) (s.sup t a hg)
    have hσ1 : ∀ t a, (eput σr o.dst v).get t = some a → Sup (curN ops val σ0 (fun _ => true) (k + 1) t) a := fun t a hg => by
      simp only [curN, dstAt, ho, Option.bind_some, true_and]
      cases hd : o.dst with
      | none => rw [hd] at hg; rw [if_neg (by simp)]; exact hσr t a hg
      | some d =>
        rw [hd] at hg
        rcases setq_get depthE σr d t a hg with ⟨rfl, h2⟩ | ⟨h1, h2⟩
        · rw [if_pos rfl, t1, h2]; exact .refl rfl
        · rw [if_neg (by simpa using Ne.symm h1)]; exact hσr t a h2
    obtain ⟨r1, r2, r3⟩ := ih (k + 1) (fun j => by have := hl (j + 1); simpa [Nat.add_assoc, Nat.add_comm 1 j] using this) (fun j => by have := hb (j + 1); simpa [Nat.add_assoc, Nat.add_comm 1 j] using this) hσ1
      (fun j hj => by
        cases j with
        | zero =>
          show some (H, n) = _
          rw [hH, hn]; simp
        | succ j =>
          show nth hist j = _
          rw [hh j (by omega)]
          have : k - 1 - j = k + 1 - 1 - (j + 1) := by omega
          rw [this]) hH1.1 hH1.2
      (fun j e he => by
        have := htr (j + 1) e (by simpa using he)
        rwa [show k + (j + 1) = k + 1 + j from by omega] at this)
      (by rw [← hH']; congr 1; simp; omega) (by rw [← hn']; congr 1; simp; omega)
    have hlen : k + (o :: l).length = k + 1 + l.length := by simp; omega
    rw [hlen]
    refine ⟨fun i o' h1 h2 ho' => ?_, by simp [r2], r3⟩
    by_cases hi : i = k
    · subst hi
      rw [ho] at ho'; injection ho' with ho'; subst ho'
      refine ⟨?_, ?_, b, hbk, fun hl => ?_, fun hl => ?_⟩
      · rw [t3]; exact hσr
      · rw [← hH, ← hH1.1]; exact s.grow
      · rw [t3, t1, ← hH, ← hn, ← hH1.1, ← hH1.2]; exact s.loud hl
      · obtain ⟨g1, g2, G, g3, g4⟩ := s.still hl
        refine ⟨by rw [← hH1.1, ← hH]; exact g1, by rw [← hH1.2, ← hn]; exact g2, fun j hj hji => ?_⟩
        rw [t3, t1]
        have hr : ∃ r, nth ((H, n) :: hist) j = some r ∧ r.1 = Hs (i - j) := by
          cases j with
          | zero => exact ⟨(H, n), rfl, by rw [Nat.sub_zero]; exact hH⟩
          | succ j =>
            refine ⟨_, hh j (by omega), ?_⟩
            show Hs (i - 1 - j) = _
            rw [show i - 1 - j = i - (j + 1) from by omega]
        obtain ⟨r, e1, e2⟩ := hr
        rw [← e2, ← g3 j r hj e1]
        exact g4
    · exact r1 i o' (by omega) h2 ho'
/-! ### bits of what is ahead -/
theorem fold_or {A : List Nat} {i j : Nat} : ∀ (l : List Edge) (m : Nat), (l.foldl (fun m e => if Region.binds .any e && decide (e.on < i) then m ||| (2 ^ e.on ||| A.getD e.on 0) else m) m).testBit j = true →
    m.testBit j = true ∨ ∃ e ∈ l, Region.binds .any e = true ∧ e.on < i ∧ (e.on = j ∨ (A.getD e.on 0).testBit j = true)
  | [], m, h => .inl h
  | e :: l, m, h => by
    simp only [List.foldl_cons] at h
    rcases fold_or l _ h with h1 | ⟨e', h1, h2⟩
    · split at h1
      · rename_i hc
        simp only [Bool.and_eq_true, decide_eq_true_eq] at hc
        simp only [Nat.testBit_or, Bool.or_eq_true, Nat.testBit_two_pow, decide_eq_true_eq] at h1
        rcases h1 with h1 | h1 | h1
        · exact .inl h1
        · exact .inr ⟨e, List.mem_cons_self, hc.1, hc.2, .inl h1⟩
        · exact .inr ⟨e, List.mem_cons_self, hc.1, hc.2, .inr h1⟩
      · exact .inl h1
    · exact .inr ⟨e', List.mem_cons_of_mem _ h1, h2⟩
theorem befA_listed {A : List Nat} (hA : ancOk A ops = true) {listed : Array Bool} (hd : Down ops listed) {j : Nat} : ∀ (m i : Nat), i < m → (∀ o, ops[i]? = some o → ∀ e ∈ o.after, Region.binds .any e = true → listed.getD e.on false = true) → i < ops.size → befA A j i = true → listed.getD j false = true
  | 0, i, hm, _, _, _ => by omega
  | m + 1, i, hm, hi, hsz, hb => by
    have ho := Array.getElem?_eq_getElem hsz
    have h1 := List.all_eq_true.1 hA i (by simpa using hsz)
    simp only [ho, beq_iff_eq] at h1
    unfold befA at hb
    rw [h1] at hb
    rcases fold_or _ _ hb with h2 | ⟨e, h2, h3, h4, h5⟩
    · simp at h2
    · have hl := hi _ ho e (by simpa using h2) h3
      rcases h5 with h5 | h5
      · exact h5 ▸ hl
      · exact befA_listed hA hd m e.on (by omega) (fun o' ho' e' he' hb' => hd e.on o' ho' hl e' he' hb') (by omega) h5
theorem no_loud3 {Bs : List DB} {σ0 : AE} {val : Nat → AV} {σs : Nat → AE} {Hs : Nat → AH} {ns : Nat → Nat} (ht : ∀ i o, ops[i]? = some o → At ops Bs σ0 val σs Hs ns i o) : ∀ (d p : Nat), p + d ≤ ops.size → (∀ j o, p ≤ j → j < p + d → ops[j]? = some o → loudOp o.op = false) → Hs (p + d) = Hs p ∧ ns (p + d) = ns p
  | 0, _, _, _ => ⟨rfl, rfl⟩
  | d + 1, p, hle, hq => by
    obtain ⟨h1, h2⟩ := no_loud3 ht d p (by omega) fun j o a b => hq j o a (by omega)
    have hlt : p + d < ops.size := by omega
    have ho := Array.getElem?_eq_getElem hlt
    obtain ⟨b, _, _, hs⟩ := (ht _ _ ho).bs
    obtain ⟨g1, g2, _⟩ := hs (hq (p + d) _ (by omega) (by omega) ho)
    exact ⟨by rw [← h1]; exact g1, by rw [← h2]; exact g2⟩
theorem grows3 {Bs : List DB} {σ0 : AE} {val : Nat → AV} {σs : Nat → AE} {Hs : Nat → AH} {ns : Nat → Nat} (ht : ∀ i o, ops[i]? = some o → At ops Bs σ0 val σs Hs ns i o) : ∀ (d p : Nat), p + d ≤ ops.size → GrowsA (Hs p) (Hs (p + d))
  | 0, _, _ => .refl _
  | d + 1, p, hle => (grows3 ht d p (by omega)).trans (ht _ _ (Array.getElem?_eq_getElem (show p + d < ops.size by omega))).grow
theorem dyn3_any {Bs : List DB} {σ0 σ' : AE} {val : Nat → AV} {σs : Nat → AE} {Hs : Nat → AH} {ns : Nat → Nat} {N : Env → Hp → Prop} (ht : ∀ i o, ops[i]? = some o → At ops Bs σ0 val σs Hs ns i o) (hst : dynOk ops Bs = true)
    (hσ' : ∀ t a, σ'.get t = some a → Sup (curN ops val σ0 (fun _ => true) ops.size t) a) (hr : HR φ (Hs 0) (ns 0) h0 h) (hf : FR φ σ0 ρ) (hN : ∀ ψ ρ' h', PLe φ ψ → HR ψ (Hs ops.size) (ns ops.size) h0 h' → FR ψ σ' ρ' → N ρ' h') : AnyI Try.prog ops ρ h N := by
  simp only [dynOk, Bool.and_eq_true] at hst
  obtain ⟨hed, hanc, hst⟩ := hst
  generalize ancsGo ops.toList 0 [] = A at hanc hst
  have per : ∀ i o, ops[i]? = some o → ∃ b, Bs[i]? = some b ∧ (∀ t ∈ b.2, t ∈ looks ops o) ∧ (match b.1 with
      | none => isCallV o.op = true
      | some k => loudOp o.op = false ∧ k ≤ i ∧ ∀ j, j < i - k → loudAt ops j = true → befA A j i = true) ∧
      ∀ j a, j < i → ops[j]? = some a → (a.apart ops o = true ∧ (loudOp a.op = false ∨ loudOp o.op = false)) ∨ befA A j i = true := fun i o ho => by
    have hisz := (Array.getElem?_eq_some_iff.1 ho).1
    have h1 := List.all_eq_true.1 hst i (by simpa using hisz)
    unfold opOk at h1
    rw [ho] at h1
    split at h1
    · rename_i o' b e1 e2
      injection e1 with e1
      subst e1
      simp only [Bool.and_eq_true, List.all_eq_true] at h1
      obtain ⟨⟨⟨h1, _⟩, h2⟩, h3⟩ := h1
      refine ⟨b, e2, fun t htm => by simpa using h1 t htm, ?_, fun j a hlt hj => ?_⟩
      · split at h2
        · rename_i e; try simp only [e]
          exact h2
        · rename_i k e
          try simp only [e]
          simp only [Bool.and_eq_true, Bool.not_eq_true', decide_eq_true_eq, List.all_eq_true, Bool.or_eq_true] at h2
          exact ⟨h2.1, h2.2.1, fun j hj hl => by
            rcases h2.2.2 j (by simpa using hj) with q | q
            · rw [hl] at q; cases q
            · exact q⟩
      · have := h3 j (by simpa using hlt)
        rw [hj] at this
        simpa only [Bool.or_eq_true, Bool.and_eq_true, Bool.not_eq_true'] using this
    · cases h1
  have pair : ∀ i j a b, j < i → ops[i]? = some b → ops[j]? = some a → (a.apart ops b = true ∧ (loudOp a.op = false ∨ loudOp b.op = false)) ∨ befA A j i = true := fun i j a b hlt hi hj => by
    obtain ⟨_, _, _, _, h4⟩ := per i b hi
    exact h4 j a hlt hj
  refine ⟨hed, fun listed ρ1 h1 => ∃ ψ p, PLe φ ψ ∧ p ≤ ops.size ∧ HR ψ (Hs p) (ns p) h0 h1 ∧ (∀ j o, ops[j]? = some o → loudOp o.op = true → (listed.getD j false = true ↔ j < p)) ∧
      ∀ t a, curN ops val σ0 (fun j => listed.getD j false) ops.size t = some a → VR ψ a (ρ1 t), ?_, ?_, ?_⟩
  · refine ⟨φ, 0, PLe.refl _, Nat.zero_le _, hr, fun j o hj _ => ?_, fun t a e => ?_⟩
    · have : (Array.replicate ops.size false).getD j false = false := by simp [Array.getD]
      rw [this]; simp
    · have : curN ops val σ0 (fun j => (Array.replicate ops.size false).getD j false) ops.size t = curN ops val σ0 (fun j => decide (j < 0)) ops.size t :=
        curN_congr _ fun j _ _ => by simp [Array.getD]
      rw [this, curN_cut _ (Nat.zero_le _)] at e
      exact hf t a e
  · intro listed i o ρ1 h1 hsz hdn ho hun hedge ⟨ψ, p, hp, hple, hr1, hlo, henv⟩
    have hi : i < ops.size := (Array.getElem?_eq_some_iff.1 ho).1
    have before : ∀ j, befA A j i = true → listed.getD j false = true := fun j hb => befA_listed hanc hdn (i + 1) i (by omega) (fun o' ho' e he hb' => by
      rw [ho] at ho'; injection ho' with ho'; subst ho'
      exact hedge e he hb') hi hb
    have behind : ∀ j, j < ops.size → befA A i j = true → listed.getD j false = false := fun j hj hb => by
      cases hl : listed.getD j false with
      | false => rfl
      | true =>
        have := befA_listed hanc hdn (j + 1) j (by omega) (fun o' ho' e he hb' => hdn j o' ho' hl e he hb') hj hb
        rw [hun] at this; cases this
    have hlook : ∀ t, t ∈ looks ops o → curN ops val σ0 (fun j => listed.getD j false) ops.size t = curN ops val σ0 (fun _ => true) i t := fun t htl => by
      rw [← curN_cut (val := val) ops.size (Nat.le_of_lt hi)]
      refine curN_congr _ fun j hj hd => ?_
      have hjo := Array.getElem?_eq_getElem hj
      have hd2 : ops[j].dst = some t := by simpa [dstAt, hjo] using hd
      by_cases hji : j = i
      · subst hji; simp [hun]
      · by_cases hlt : j < i
        · rcases pair i j _ _ hlt ho hjo with ⟨ha, _⟩ | hb
          · exact absurd htl ((Oper.apart_spec ha).1 t hd2)
          · rw [before j hb]; simp [hlt]
        · rcases pair j i _ _ (by omega) hjo ho with ⟨ha, _⟩ | hb
          · exact absurd htl ((Oper.apart_spec ha).2.2 t hd2)
          · rw [behind j hj hb]; simp [hlt]
    have hat := ht i o ho
    obtain ⟨b, hb1, hb2, hb3, _⟩ := per i o ho
    obtain ⟨b', hb4, hloud, hstill⟩ := hat.bs
    rw [hb1] at hb4
    injection hb4 with hb4
    subst hb4
    have hsl : SlotR ψ (σs i) b.2 ρ1 := fun t htm => by
      rcases getq_some depthE t (σs i) _ rfl with e | e
      · show VR ψ (getq (pathOf depthE t) (σs i)) (ρ1 t)
        rw [e]; exact .bad _
      · refine hat.look t _ e ψ _ fun a' ha' => henv t a' ?_
        rw [hlook t (hb2 t htm)]; exact ha'
    have hset : ∀ j, (listed.setIfInBounds i true).getD j false = if j = i then true else listed.getD j false := fun j => getD_set (by omega)
    have henv2 : ∀ {χ : Ph} {u : Value}, PLe ψ χ → VR χ (val i) u → ∀ t a, curN ops val σ0 (fun j => (listed.setIfInBounds i true).getD j false) ops.size t = some a → VR χ a ((ρ1.put o.dst u) t) := fun {χ u} hpχ hu t a e => by
      rw [curN_upd (L := fun j => listed.getD j false) (i := i) (fun j hj => by simp only [hset, if_neg hj]) (by simp only [hset, if_true]) ops.size hi (fun j h1 h2 hd1 hd2 => by
        have hjo := Array.getElem?_eq_getElem h2
        have e1 : o.dst = some t := by simpa [dstAt, ho] using hd1
        have e2 : ops[j].dst = some t := by simpa [dstAt, hjo] using hd2
        rcases pair j i _ _ h1 hjo ho with ⟨ha, _⟩ | hb
        · exact absurd e2 ((Oper.apart_spec ha).2.1 t e1)
        · exact behind j h2 hb)] at e
      by_cases hd : o.dst = some t
      · rw [if_pos (by simpa [dstAt, ho] using hd)] at e
        injection e with e
        subst e
        rw [hd, put_some, upd_same]; exact hu
      · rw [if_neg (by simpa [dstAt, ho] using hd)] at e
        have := VR.mono hpχ _ _ (henv t a e)
        rwa [put_agree (fun x hx => by intro q; exact hd (by rw [hx, q]))]
    cases hl : loudOp o.op with
    | true =>
      have hpi : p ≤ i := by
        have := (hlo i o ho hl)
        rw [hun] at this
        by_cases hc : i < p
        · have := this.2 hc; cases this
        · omega
      have hnol : ∀ j o', p ≤ j → j < p + (i - p) → ops[j]? = some o' → loudOp o'.op = false := fun j o' h1 h2 hj => by
        cases hlj : loudOp o'.op with
        | false => rfl
        | true =>
          rcases pair i j _ _ (by omega) ho hj with ⟨_, hx⟩ | hb
          · rcases hx with hx | hx
            · rw [hlj] at hx; cases hx
            · rw [hl] at hx; cases hx
          · have := (hlo j o' hj hlj).1 (before j hb)
            omega
      obtain ⟨c1, c2⟩ := no_loud3 ht (i - p) p (by omega) hnol
      rw [show p + (i - p) = i from by omega] at c1 c2
      rw [← c1, ← c2] at hr1
      refine hloud hl ψ h0 h1 ρ1 _ hr1 hsl fun χ u g hpχ hg hu => ⟨χ, i + 1, hp.trans hpχ, hi, hg, fun j o' hj hlj => ?_, henv2 hpχ hu⟩
      rw [hset]
      by_cases hji : j = i
      · subst hji; simp
      · rw [if_neg hji]
        have hjsz := (Array.getElem?_eq_some_iff.1 hj).1
        by_cases hlt : j < i
        · have : listed.getD j false = true := by
            rcases pair i j _ _ hlt ho hj with ⟨_, hx⟩ | hb
            · rcases hx with hx | hx
              · rw [hlj] at hx; cases hx
              · rw [hl] at hx; cases hx
            · exact before j hb
          rw [this]; simp; omega
        · have : listed.getD j false = false := by
            rcases pair j i _ _ (by omega) hj ho with ⟨_, hx⟩ | hb
            · rcases hx with hx | hx
              · rw [hl] at hx; cases hx
              · rw [hlj] at hx; cases hx
            · exact behind j hjsz hb
          rw [this]; simp; omega
    | false =>
      obtain ⟨_, _, hsf⟩ := hstill hl
      have hk : ∃ k, b.1 = some k ∧ k ≤ i ∧ ∀ j, j < i - k → loudAt ops j = true → befA A j i = true := by
        split at hb3
        · rename_i e
          unfold isCallV at hb3
          split at hb3
          · rename_i f xs ts e2
            rw [e2] at hl; cases hl
          · cases hb3
        · rename_i k e
          exact ⟨k, e, hb3.2⟩
      obtain ⟨k, hk1, hk2, hk3⟩ := hk
      have hGr : GrowsA (Hs (i - k)) (Hs p) := by
        by_cases hpk : i - k ≤ p
        · have := grows3 ht (p - (i - k)) (i - k) (by omega)
          rwa [show i - k + (p - (i - k)) = p from by omega] at this
        · obtain ⟨c1, _⟩ := no_loud3 ht (i - k - p) p (by omega) fun j o' h1 h2 hj => by
            cases hlj : loudOp o'.op with
            | false => rfl
            | true =>
              have h3 := hk3 j (by omega) (by unfold loudAt; rw [hj]; exact hlj)
              have := (hlo j o' hj hlj).1 (before j h3)
              omega
          rw [show p + (i - k - p) = i - k from by omega] at c1
          rw [c1]; exact .refl _
      refine hsf k hk1 hk2 ψ (ns p) h0 h1 ρ1 _ (hr1.less hGr) hsl fun u hu => ⟨ψ, p, hp, hple, hr1, fun j o' hj hlj => ?_, henv2 (PLe.refl _) hu⟩
      rw [hset]
      by_cases hji : j = i
      · subst hji; rw [ho] at hj; injection hj with hj; subst hj; rw [hl] at hlj; cases hlj
      · rw [if_neg hji]; exact hlo j o' hj hlj
  · intro listed ρ1 h1 hsz hall ⟨ψ, p, hp, hple, hr1, hlo, henv⟩
    obtain ⟨c1, c2⟩ := no_loud3 ht (ops.size - p) p (by omega) fun j o a b hj => by
      cases hl : loudOp o.op with
      | false => rfl
      | true =>
        have := (hlo j o hj hl).1 (hall j (by omega))
        omega
    rw [show p + (ops.size - p) = ops.size from by omega] at c1 c2
    rw [← c1, ← c2] at hr1
    refine hN ψ ρ1 h1 hp hr1 fun t a e => hσ' t a e ψ _ fun a' ha' => henv t a' ?_
    rw [← ha']
    exact curN_congr _ fun j hj _ => hall j hj
theorem dynL_sound (hcd : CPok cd) (hcs : CSing cd) {Bs : List DB} {σ : AE} {H : AH} {n : Nat} {kn : KP} {N : Env → Hp → Prop} (hst : dynOk ops Bs = true) (hs : dynL ops ops.toList Bs cd [] σ H n kn) (hr : HR φ H n h0 h) (hf : FR φ σ ρ)
    (hN : ∀ ψ σ' H' n' ρ' h', PLe φ ψ → HR ψ H' n' h0 h' → FR ψ σ' ρ' → kn σ' H' n' → N ρ' h') : AnyI Try.prog ops ρ h N := by
  have hst2 := hst
  simp only [dynOk, Bool.and_eq_true] at hst2
  obtain ⟨tr, σ', H', n', h1, h2⟩ := dynL_tr hcd hcs ops.toList Bs [] σ H n (fun i o b ho hb => by
    rw [Array.getElem?_toList] at ho
    have hisz := (Array.getElem?_eq_some_iff.1 ho).1
    have h1 := List.all_eq_true.1 hst2.2.2 i (by simpa using hisz)
    unfold opOk at h1
    rw [ho, hb] at h1
    simp only [Bool.and_eq_true] at h1
    refine ⟨?_, h1.1.1.2⟩
    unfold bOk
    have h2 := h1.1.2
    split at h2
    · rename_i e; try rw [e]
      exact h2
    · rename_i k e
      try rw [e]
      simp only [Bool.and_eq_true, Bool.not_eq_true'] at h2
      exact h2.1) hs
  let dflt : TR := ⟨.bad, .nil, H', n'⟩
  let at_ : Nat → TR := fun j => (tr[j]?).getD dflt
  have hat : ∀ (j : Nat) e, tr[j]? = some e → at_ j = e := fun j e hj => by simp only [at_, hj, Option.getD_some]
  have hsize : ops.toList.length = ops.size := Array.length_toList
  have hlen : tr.length = ops.size := by
    rw [← hsize]
    exact tr_length h1
  let Hs : Nat → AH := fun j => if j < tr.length then (at_ j).H else H'
  let ns : Nat → Nat := fun j => if j < tr.length then (at_ j).n else n'
  have hend : Hs ops.size = H' ∧ ns ops.size = n' := ⟨by simp only [Hs]; rw [if_neg (by omega)], by simp only [ns]; rw [if_neg (by omega)]⟩
  have hs0 : H = Hs 0 ∧ n = ns 0 := by
    cases hl : ops.toList with
    | nil =>
      have e0 : ops.size = 0 := by rw [← hsize, hl]; rfl
      rw [hl] at h1
      cases h1
      simp only [Hs, ns]
      rw [if_neg (by omega), if_neg (by omega)]
      exact ⟨rfl, rfl⟩
    | cons o l =>
      rw [hl] at h1
      cases h1 with
      | cons s r => exact ⟨rfl, rfl⟩
  obtain ⟨told, _, hfin⟩ := tr_told (Bs := Bs) (σ0 := σ) (val := fun j => (at_ j).v) (σs := fun j => (at_ j).σ) (Hs := Hs) (ns := ns) h1 0 (fun j => by rw [Nat.zero_add, Array.getElem?_toList]) (fun j => by rw [Nat.zero_add]) (fun t a q => .refl q) (fun j hj => by omega) hs0.1 hs0.2
    (fun j e hj => by
      have hjl := (List.getElem?_eq_some_iff.1 hj).1
      rw [Nat.zero_add]
      refine ⟨by rw [hat j e hj], by rw [hat j e hj], ?_, ?_⟩
      · simp only [Hs]; rw [if_pos hjl, hat j e hj]
      · simp only [ns]; rw [if_pos hjl, hat j e hj])
    (by simp only [Hs]; rw [if_neg (by rw [hlen, hsize]; omega)])
    (by simp only [ns]; rw [if_neg (by rw [hlen, hsize]; omega)])
  rw [Nat.zero_add, hsize] at told hfin
  refine dyn3_any (fun i o ho => told i o (Nat.zero_le _) (Array.getElem?_eq_some_iff.1 ho).1 ho) hst hfin (by rw [← hs0.1, ← hs0.2]; exact hr) hf ?_
  rw [hend.1, hend.2]
  exact fun ψ ρ' h' a b c => hN ψ σ' H' n' ρ' h' a b c h2
end
end Go.Proofs.Ytaejmcgcfopmkaa
namespace Go.Proofs.Ytaejmcgcfopmkaa
open Go Go.RowKit
section
variable {φ : Ph} {H : AH} {n : Nat} {h0 h : Hp} {σ : AE} {ρ : Env} {call : CP}
/-- What follows, from a state on. -/
def GoP (φ0 : Ph) (h0 : Hp) (k : KP) (N : Env → Hp → Prop) : Prop := ∀ (ψ : Ph) (σ : AE) (H : AH) (n : Nat) (ρ : Env) (h : Hp), PLe φ0 ψ → HR ψ H n h0 h → FR ψ σ ρ → k σ H n → N ρ h
theorem opsP_sound (hcall : CPok call) {φ0 : Ph} {ops : Array Oper} {N : Env → Hp → Prop} : ∀ (l : List Oper) (φ : Ph) (σ : AE) (H : AH) (n : Nat) (k : KP) (ρ : Env) (h : Hp), PLe φ0 φ → HR φ H n h0 h → FR φ σ ρ →
    opsP ops l call σ H n k → GoP φ0 h0 k N → aops Try.prog ops l ρ h N
  | [], φ, σ, H, n, k, ρ, h, hp, hr, hf, hs, hN => hN φ σ H n ρ h hp hr hf hs
  | o :: l, φ, σ, H, n, k, ρ, h, hp, hr, hf, hs, hN => by
    have hs : opP ops o call σ H n (fun σ H n => opsP ops l call σ H n k) := hs
    have did : ∀ (σ : AE) (ρ : Env), FR φ σ ρ → (stepP o.op call σ H n fun v H n => opsP ops l call (eput σ o.dst v) H n k) → astep Try.prog o.op ρ h fun v h' => aops Try.prog ops l (ρ.put o.dst v) h' N := fun σ ρ hf hs =>
      stepP_sound hcall hr hf hs fun ψ v H' n' u g h1 h2 h3 h4 => opsP_sound hcall l ψ _ H' n' k _ g (hp.trans h1) h2 ((hf.mono h1).put o.dst h3) h4 hN
    have skip : ∀ (σ : AE) (ρ : Env), FR φ σ ρ → opsP ops l call (eput σ o.dst undefA) H n k → aops Try.prog ops l (ρ.put o.dst undef) h N := fun σ ρ hf hs =>
      opsP_sound hcall l φ _ H n k _ h hp hr (hf.put o.dst .undef) hs hN
    unfold opP at hs
    unfold aops
    split at hs
    · rename_i hg
      simp only [hg]
      exact did σ ρ hf hs
    · rename_i j want hg
      simp only [hg]
      split at hs
      · exact hs.elim
      · rename_i t ht
        simp only [ht]
        have rput : ∀ q : Bool, ρ t = .bool q → FR φ (eput σ (some t) (.bool q)) (ρ.upd t (.bool q)) := fun q hq => hf.put (some t) (.bool q)
        split at hs
        · rename_i q hq
          have hv := (hq ▸ hf.at t).bool_inv
          simp only [hv]
          split at hs
          · rename_i hqw
            have hqw2 : q = want := by simpa using hqw
            subst hqw2
            refine ⟨fun _ => ?_, (fun k => by rw [hqw] at k; cases k)⟩
            rw [upd_eta hv]
            exact did σ ρ hf hs
          · rename_i hqw
            have hqw2 : (!want) = q := by cases q <;> cases want <;> simp_all
            refine ⟨(fun k => by rw [hqw] at k; cases k), fun _ => ?_⟩
            rw [upd_eta (by rw [hv, hqw2])]
            exact skip σ ρ hf hs
        · rename_i q hq
          have hv := (hq ▸ hf.at t).sb_inv
          simp only [hv]
          split at hs
          · cases q with
            | true => exact ⟨fun _ => did _ _ (rput true hv) (hs.t rfl), fun k => by cases k⟩
            | false => exact ⟨(fun k => by cases k), fun _ => skip _ _ (rput false hv) (hs.f rfl)⟩
          · cases q with
            | true => exact ⟨(fun k => by cases k), fun _ => skip _ _ (rput true hv) (hs.t rfl)⟩
            | false => exact ⟨fun _ => did _ _ (rput false hv) (hs.f rfl), fun k => by cases k⟩
        · rename_i us hq
          obtain ⟨cs, hv, _⟩ := (hq ▸ hf.at t).tup_inv
          simp only [hv]
          exact skip σ ρ hf hs
        · exact hs.elim
theorem refP_FR (hf : FR φ σ ρ) {c : Operand} {q : Bool} (hv : ρ.ev c = .bool q) : FR φ (refP c q σ) ρ := by
  cases c with
  | tmp t =>
    have := hf.put (some t) (VR.bool q)
    have e : ρ.put (some t) (.bool q) = ρ := upd_eta hv
    rw [e] at this
    exact this
  | _ => exact hf
theorem and_of {a b : Bool} (h : (Bool.rec false b a : Bool) = true) : a = true ∧ b = true := by
  cases a with
  | true => exact ⟨rfl, h⟩
  | false => cases h
theorem execP_sound (hcall : CPok call) {cd : CP} (hcd : CPok cd) (hcs : CSing cd) {D : DT} {p : Nat} {φ0 : Ph} (hφ : ∀ b q, φ0 b = some q → b < p) (c : Code) : drawOk D c = true → ∀ (φ : Ph) (σ : AE) (H : AH) (n : Nat) (kn : KP) (kx : Nat → KP) (kr : KP) (ρ : Env) (h : Hp) (N R : EH) (X : Nat → EH), PLe φ0 φ → HR φ H n h0 h → FR φ σ ρ →
    execP p cd D c call σ H n kn kx kr → GoP φ0 h0 kn N → GoP φ0 h0 kr R → (∀ i, GoP φ0 h0 (kx i) (X i)) → avc Try.prog c N R X ρ h := by
  induction c with
  | skip => exact fun _ φ σ H n kn kx kr ρ h N R X hp hr hf hs hN _ _ => hN φ σ H n ρ h hp hr hf hs
  | region id ops draw =>
    intro hdr φ σ H n kn kx kr ρ h N R X hp hr hf hs hN _ _
    have key : opsP ops ops.toList call σ H n kn → aops Try.prog ops ops.toList ρ h N := fun hs => opsP_sound hcall _ φ σ H n kn ρ h hp hr hf hs hN
    unfold avc
    cases draw with
    | false => exact key hs
    | true =>
      have hs : (Option.rec (fun call σ H n kn _ _ => opsP ops ops.toList call σ H n kn) (fun bs _ σ H n kn _ _ => dynL ops ops.toList bs cd [] σ H n kn) (findD D id) : XP) call σ H n kn kx kr := hs
      have hdr : (Option.rec (swapB Try.prog ops) (fun bs => dynOk ops bs) (findD D id) : Bool) = true := hdr
      rw [if_pos rfl]
      cases hd : findD D id with
      | none =>
        rw [hd] at hs hdr
        exact .inr (.inl ⟨hdr, key hs⟩)
      | some bs =>
        rw [hd] at hs hdr
        exact .inr (.inr (dynL_sound hcd hcs hdr hs hr hf fun ψ σ' H' n' ρ' h' hp' hr' hf' hk' => hN ψ σ' H' n' ρ' h' (hp.trans hp') hr' hf' hk'))
  | seq a b iha ihb =>
    intro hdr φ σ H n kn kx kr ρ h N R X hp hr hf hs hN hR hX
    obtain ⟨hda, hdb⟩ := and_of hdr
    exact iha hda φ σ H n _ kx kr ρ h _ R X hp hr hf hs (fun ψ σ H n ρ h hp hr hf hs => ihb hdb ψ σ H n kn kx kr ρ h N R X hp hr hf hs hN hR hX) hR hX
  | cond x a b iha ihb =>
    intro hdr φ σ H n kn kx kr ρ h N R X hp hr hf hs hN hR hX
    obtain ⟨hda, hdb⟩ := and_of hdr
    have hs : condP x σ (fun σ => execP p cd D a call σ H n kn kx kr) (fun σ => execP p cd D b call σ H n kn kx kr) := hs
    have hc := hf.ev x
    unfold condP at hs
    unfold avc
    split at hs
    · rename_i q
      rw [q] at hc
      rw [hc.bool_inv]
      exact ⟨fun _ => iha hda φ σ H n kn kx kr ρ h N R X hp hr hf hs hN hR hX, (fun k => by cases k)⟩
    · rename_i q
      rw [q] at hc
      rw [hc.bool_inv]
      exact ⟨(fun k => by cases k), fun _ => ihb hdb φ σ H n kn kx kr ρ h N R X hp hr hf hs hN hR hX⟩
    · rename_i q e
      rw [e] at hc
      have hv := hc.sb_inv
      cases q with
      | true => rw [hv]; exact ⟨fun _ => iha hda φ _ H n kn kx kr ρ h N R X hp hr (refP_FR hf hv) (hs.t rfl) hN hR hX, (fun k => by cases k)⟩
      | false => rw [hv]; exact ⟨(fun k => by cases k), fun _ => ihb hdb φ _ H n kn kx kr ρ h N R X hp hr (refP_FR hf hv) (hs.f rfl) hN hR hX⟩
    · exact hs.elim
  | block id b ih =>
    intro hdr φ σ H n kn kx kr ρ h N R X hp hr hf hs0 hN hR hX
    unfold avc
    refine ih hdr φ σ H n kn _ kr ρ h N R _ hp hr hf hs0 hN hR fun i ψ σ H n ρ h hp hr hf hs => ?_
    cases hb : Nat.beq i id with
    | true =>
      rw [hb] at hs
      have hii := Nat.eq_of_beq_eq_true hb
      rw [if_pos hii]
      exact hN ψ σ H n ρ h hp hr hf hs
    | false =>
      rw [hb] at hs
      have hne : ¬ i = id := fun q => by subst q; simp at hb
      simp only [if_neg hne]
      exact hX i ψ σ H n ρ h hp hr hf hs
  | loop b ih =>
    intro hdr φ σ H n kn kx kr ρ h N R X hp hr hf hs hN hR hX
    have hs : LoopP p (fun σ H n k => execP p cd D b call σ H n k kx kr) σ H n := hs
    unfold avc
    rcases hs with ⟨α, nn, st, μ, a0, c0, hstep⟩ | ⟨k0, hroll⟩
    · skip
      let Q : Env → Hp → Nat → Prop := fun ρ1 h1 m => ∃ ψ a, μ a = m ∧ PLe φ0 ψ ∧ HR ψ (st a).2 nn h0 h1 ∧ FR ψ (st a).1 ρ1
      have cov : ∀ {ψ : Ph} {σ : AE} {H : AH} {n : Nat} {ρ : Env} {h : Hp} {a : α}, Cov p σ H n ((st a).1, (st a).2, nn) → PLe φ0 ψ → HR ψ H n h0 h → FR ψ σ ρ → Q ρ h (μ a) := fun {ψ σ H n ρ h a} hc hp hr hf => by
        obtain ⟨χ, h1, h2, h3⟩ := hc ψ h0 h ρ hr hf
        exact ⟨χ, a, rfl, fun b q e => h1 b q (hφ b q e) (hp b q e), h2, h3⟩
      have hμ : ∀ ρ1 h1 g, Q ρ1 h1 g → ∃ m, Q ρ1 h1 m ∧ ∀ k, Q ρ1 h1 k → m ≤ k := fun ρ1 h1 g hg => least g hg
      refine ⟨fun ρ1 h1 => ∃ g, Q ρ1 h1 g, fun ρ1 h1 => Classical.epsilon fun m => Q ρ1 h1 m ∧ ∀ k, Q ρ1 h1 k → m ≤ k, ⟨_, cov c0 hp hr hf⟩, fun ρ1 h1 ⟨g, hg⟩ _ _ => ?_⟩
      have hsp := Classical.epsilon_spec (hμ ρ1 h1 g hg)
      obtain ⟨m, hm⟩ : ∃ m, (Classical.epsilon fun m => Q ρ1 h1 m ∧ ∀ k, Q ρ1 h1 k → m ≤ k) = m := ⟨_, rfl⟩
      rw [hm] at hsp
      obtain ⟨⟨ψ, a, ha, hp1, hr1, hf1⟩, _⟩ := hsp
      refine ih hdr ψ _ _ _ _ kx kr ρ1 h1 _ R X hp1 hr1 hf1 (hstep a) (fun χ σ2 H2 n2 ρ2 h2 hp2 hr2 hf2 ⟨a', hlt, hc⟩ => ?_) hR hX
      have hQ2 := cov hc hp2 hr2 hf2
      refine ⟨h2, Sub.refl _, ⟨_, hQ2⟩, ?_⟩
      have hsp2 := Classical.epsilon_spec (hμ ρ2 h2 _ hQ2)
      have := hsp2.2 _ hQ2
      simp only [hm]
      omega
    · let Q : Env → Hp → Nat → Prop := fun ρ1 h1 m => ∃ ψ σ H n, rollP m (fun σ H n k => execP p cd D b call σ H n k kx kr) σ H n ∧ PLe φ0 ψ ∧ HR ψ H n h0 h1 ∧ FR ψ σ ρ1
      have hμ : ∀ ρ1 h1 g, Q ρ1 h1 g → ∃ m, Q ρ1 h1 m ∧ ∀ k, Q ρ1 h1 k → m ≤ k := fun ρ1 h1 g hg => least g hg
      refine ⟨fun ρ1 h1 => ∃ g, Q ρ1 h1 g, fun ρ1 h1 => Classical.epsilon fun m => Q ρ1 h1 m ∧ ∀ k, Q ρ1 h1 k → m ≤ k, ⟨k0, φ, σ, H, n, hroll, hp, hr, hf⟩, fun ρ1 h1 ⟨g, hg⟩ _ _ => ?_⟩
      have hsp := Classical.epsilon_spec (hμ ρ1 h1 g hg)
      obtain ⟨m, hm⟩ : ∃ m, (Classical.epsilon fun m => Q ρ1 h1 m ∧ ∀ k, Q ρ1 h1 k → m ≤ k) = m := ⟨_, rfl⟩
      rw [hm] at hsp
      obtain ⟨⟨ψ, σ1, H1, n1, hr0, hp1, hr1, hf1⟩, _⟩ := hsp
      cases m with
      | zero => exact hr0.elim
      | succ m =>
        refine ih hdr ψ _ _ _ _ kx kr ρ1 h1 _ R X hp1 hr1 hf1 hr0 (fun χ σ2 H2 n2 ρ2 h2 hp2 hr2 hf2 h3 => ?_) hR hX
        have hQ2 : Q ρ2 h2 m := ⟨χ, σ2, H2, n2, h3, hp2, hr2, hf2⟩
        refine ⟨h2, Sub.refl _, ⟨_, hQ2⟩, ?_⟩
        have hsp2 := Classical.epsilon_spec (hμ ρ2 h2 _ hQ2)
        have := hsp2.2 _ hQ2
        simp only [hm]
        omega
  | exit i => exact fun _ φ σ H n kn kx kr ρ h N R X hp hr hf hs _ _ hX => hX i φ σ H n ρ h hp hr hf hs
  | ret => exact fun _ φ σ H n kn kx kr ρ h N R X hp hr hf hs _ hR _ => hR φ σ H n ρ h hp hr hf hs
  | _ => intro _ φ σ H n kn kx kr ρ h N R X hp hr hf hs; exact hs.elim

/-! ### functions -/
theorem resP_sound (hr : HR φ H n h0 h) (hf : FR φ σ ρ) {K : KH} : ∀ (rs : List ResultVar) (acc : List Value) (k : List AV → Prop), resP rs σ H k → (∀ vs us, k vs → VRs φ vs us → Fin K (packV (acc.reverse ++ us)) h) → resK Try.prog rs acc ρ h K
  | [], acc, k, hs, hk => by
    have := hk [] [] hs .nil
    simpa [resK] using this
  | .tmp t :: rs, acc, k, hs, hk => by
    have hs : resP rs σ H (fun vs => k (getq (pa t) σ :: vs)) := hs
    refine resP_sound hr hf rs (ρ t :: acc) _ hs fun vs us h1 hus => ?_
    have := hk _ (ρ t :: us) h1 (.cons (hf.at t) hus)
    simpa using this
  | .cell a t :: rs, acc, k, hs, hk => by
    have hs : loadP t (getq (pa a) σ) H (fun v => resP rs σ H fun vs => k (v :: vs)) := hs
    refine loadP_sound hr (hf.at a) hs fun r u h1 hu => ?_
    refine resP_sound hr hf rs (u :: acc) _ h1 fun vs us h2 hus => ?_
    have := hk _ (u :: us) h2 (.cons hu hus)
    simpa using this
set_option maxRecDepth 20000 in
theorem runP_sound (hm : Try.prog.follows .mixedOrders = true) (hcall : CPok call) {cd : CP} (hcd : CPok cd) (hcs : CSing cd) {D : DT} {f : FuncId} {fn : Func} {c : Code} (hok : fnOk Try.prog f = true) (hdr : drawOk D c = true) (hfn : Try.prog.funcs[f]? = some fn) (hb : fn.body = some c) {args : List AV} {κ : PK} {vs : Array Value} {K : KH}
    (hs : runP call cd D c fn.results.toList fn.ntmps args H n κ) (hr : HR φ H n h0 h) (hargs : VRs φ args vs.toList) (hk : ThenP φ h0 κ K) : CallF Try.prog f vs h K := by
  obtain ⟨h1, hs⟩ := bifP_inv hs
  simp only [fnOk, hfn, hb, Bool.and_eq_true] at hok
  obtain ⟨hic, hds⟩ := hok
  have hal := hargs.length
  have hle := Nat.le_of_ble_eq_true h1
  refine ⟨hic, callG_of hm hfn hb rfl rfl hds (by simpa [hal] using hle) fun _ => ?_⟩
  have fin : GoP φ h0 (fun σ H n => resP fn.results.toList σ H fun vs => κ (epack vs) H n) (resK Try.prog fn.results.toList [] · · K) := fun ψ σ' H' n' ρ' h' hp' hr' hf' hs' =>
    resP_sound hr' hf' _ [] _ hs' fun ws us h2 hus => .here (hk ψ _ H' n' _ h' hp' hr' (by simpa using epack_VR hus) h2)
  exact execP_sound hcall hcd hcs (fun b q e => (hr.dom b q e).1) c hdr φ _ H n _ _ _ _ h _ _ _ (PLe.refl _) hr (entry_FR hargs) hs fin fin fun i ψ σ' H' n' ρ' h' _ _ _ q => q.elim
/-- A function known by a proof. -/
def NatP (f : FuncId) (g : List AV → AH → Nat → PK → Prop) : Prop := ∀ (args : List AV) (H : AH) (n : Nat) (κ : PK), g args H n κ → ∀ (φ : Ph) (h0 h : Hp) (vs : Array Value) (K : KH), HR φ H n h0 h → VRs φ args vs.toList → ThenP φ h0 κ K → CallF Try.prog f vs h K
/-- It has one outcome, and leaves what there was. -/
def SingG (g : List AV → AH → Nat → PK → Prop) : Prop := ∀ args H n κ, g args H n κ → ∃ v H' n', κ v H' n' ∧ GrowsA H H' ∧ n ≤ n' ∧ ∀ κ' : PK, κ' v H' n' → g args H n κ'
def FunOk (f : FuncId) (e : EP) : Prop := match e with
  | .no => True
  | .run D c rs m => fnOk Try.prog f = true ∧ drawOk D c = true ∧ ∃ fn, Try.prog.funcs[f]? = some fn ∧ fn.body = some c ∧ fn.results.toList = rs ∧ fn.ntmps = m
  | .nat g => NatP f g
  | .det g => NatP f g ∧ SingG g
def TabP (F : FuncId → EP) : Prop := ∀ f, FunOk f (F f)
theorem callD_ok {F : FuncId → EP} (hF : TabP F) : CPok (callD F) := fun f args H n κ hs φ h0 h vs K hr hargs hk => by
  have hs : (EP.rec (fun _ _ _ _ => False) (fun _ _ _ _ _ _ _ _ => False) (fun _ _ _ _ _ => False) (fun g => g) (F f) : List AV → AH → Nat → PK → Prop) args H n κ := hs
  have hf := hF f
  cases hFf : F f with
  | no => rw [hFf] at hs; exact hs.elim
  | nat g => rw [hFf] at hs; exact hs.elim
  | run _ _ _ _ => rw [hFf] at hs; exact hs.elim
  | det g => rw [hFf] at hs hf; exact hf.1 args H n κ hs φ h0 h vs K hr hargs hk
theorem callD_sing {F : FuncId → EP} (hF : TabP F) : CSing (callD F) := fun f args H n κ hs => by
  unfold callD at *
  have hf := hF f
  cases hFf : F f with
  | no => rw [hFf] at hs; exact hs.elim
  | nat g => rw [hFf] at hs; exact hs.elim
  | run _ _ _ _ => rw [hFf] at hs; exact hs.elim
  | det g => rw [hFf] at hs hf; exact hf.2 args H n κ hs
set_option maxRecDepth 20000 in
theorem callT_sound (hm : Try.prog.follows .mixedOrders = true) {F : FuncId → EP} (hF : TabP F) : ∀ d, CPok (callT F d)
  | 0 => fun f args H n κ hs => hs.elim
  | d + 1 => fun f args H n κ hs φ h0 h vs K hr hargs hk => by
    have hs : (EP.rec (fun _ _ _ _ => False) (fun D c rs m => runP (callT F d) (callD F) D c rs m) (fun g => g) (fun g => g) (F f) : List AV → AH → Nat → PK → Prop) args H n κ := hs
    have hf := hF f
    cases hFf : F f with
    | no => rw [hFf] at hs; exact hs.elim
    | nat g => rw [hFf] at hs hf; exact hf args H n κ hs φ h0 h vs K hr hargs hk
    | det g => rw [hFf] at hs hf; exact hf.1 args H n κ hs φ h0 h vs K hr hargs hk
    | run D c rs m =>
      rw [hFf] at hs hf
      obtain ⟨hok, hdr, fn, hfn, hb, hrs, hnt⟩ := hf
      subst hrs hnt
      exact runP_sound hm (callT_sound hm hF d) (callD_ok hF) (callD_sing hF) hok hdr hfn hb hs hr hargs hk
theorem bodyP_ok {D : DT} {f : FuncId} (hok : fnOk Try.prog f = true) (hdr : drawF D f = true) : FunOk f (bodyP D f) := by
  unfold drawF at hdr
  unfold bodyP
  cases hfn : Try.prog.funcs[f]? with
  | none => rw [hfn] at hdr; cases hdr
  | some fn =>
    rw [hfn] at hdr
    dsimp only at hdr ⊢
    cases hb : fn.body with
    | none => rw [hb] at hdr; cases hdr
    | some c =>
      rw [hb] at hdr
      exact ⟨hok, hdr, fn, hfn, hb, rfl, rfl⟩
theorem evP_ok : TabP evP := fun f => by
  unfold evP
  cases h : fnOkq f with
  | false => trivial
  | true =>
    cases hd : drawF [] f with
    | false => trivial
    | true => exact bodyP_ok h hd
/-- The table, with what is told of a function's regions that draw their order. -/
noncomputable def withD (k : FuncId) (D : DT) (F : FuncId → EP) (f : FuncId) : EP := Bool.rec (F f) (bodyP D k) (Nat.beq f k)
theorem withD_ok {F : FuncId → EP} (hF : TabP F) {k : FuncId} {D : DT} (hok : fnOk Try.prog k = true) (hdr : drawF D k = true) : TabP (withD k D F) := fun f => by
  unfold withD
  cases hb : Nat.beq f k with
  | false => exact hF f
  | true =>
    have := Nat.eq_of_beq_eq_true hb
    subst this
    exact bodyP_ok hok hdr
/-- The table, one function more known, that may be called in a region that draws its order. -/
noncomputable def withS (k : FuncId) (g : List AV → AH → Nat → PK → Prop) (F : FuncId → EP) (f : FuncId) : EP := Bool.rec (F f) (.det g) (Nat.beq f k)
theorem withS_ok {F : FuncId → EP} (hF : TabP F) {k : FuncId} {g : List AV → AH → Nat → PK → Prop} (hg : NatP k g) (hs : SingG g) : TabP (withS k g F) := fun f => by
  unfold withS
  cases hb : Nat.beq f k with
  | false => exact hF f
  | true =>
    have := Nat.eq_of_beq_eq_true hb
    subst this
    exact ⟨hg, hs⟩
/-- The table, one function more known. -/
noncomputable def withN (k : FuncId) (g : List AV → AH → Nat → PK → Prop) (F : FuncId → EP) (f : FuncId) : EP := Bool.rec (F f) (.nat g) (Nat.beq f k)
theorem withN_ok {F : FuncId → EP} (hF : TabP F) {k : FuncId} {g : List AV → AH → Nat → PK → Prop} (hg : NatP k g) : TabP (withN k g F) := fun f => by
  unfold withN
  cases hb : Nat.beq f k with
  | false => exact hF f
  | true =>
    have := Nat.eq_of_beq_eq_true hb
    subst this
    exact hg
/-- A function's run by a table makes it known. -/
theorem NatP.of {F : FuncId → EP} (hF : TabP F) {f : FuncId} {g : List AV → AH → Nat → PK → Prop} (d : Nat) (h : ∀ args H n κ, g args H n κ → callT F d f args H n κ) : NatP f g := fun args H n κ hs => callT_sound (by kernel_rfl) hF d f args H n κ (h args H n κ hs)
/-- A value that points nowhere. -/
def flat : AV → Bool
  | .int _ _ => true
  | .str _ => true
  | .bool _ => true
  | .si _ _ => true
  | .sb _ => true
  | .ss _ => true
  | .nil => true
  | .nsl => true
  | .tup l => l.all flat1
  | .agg l => l.all flat1
  | _ => false
where flat1 : AV → Bool
  | .int _ _ => true
  | .str _ => true
  | .bool _ => true
  | .si _ _ => true
  | .sb _ => true
  | .ss _ => true
  | .nil => true
  | .nsl => true
  | _ => false
theorem flat1_VR {φ ψ : Ph} {a : AV} {v : Value} (hf : flat.flat1 a = true) (h : VR φ a v) : VR ψ a v := by
  cases a <;> first | (cases hf; done) | exact h
theorem flat1_VRs {φ ψ : Ph} : ∀ {l : List AV} {vs : List Value}, l.all flat.flat1 = true → VRs φ l vs → VRs ψ l vs
  | [], vs, _, h => by rw [h.nil_inv]; exact .nil
  | a :: l, vs, hf, h => by
    obtain ⟨v, us, rfl, h1, h2⟩ := h.cons_inv
    simp only [List.all_cons, Bool.and_eq_true] at hf
    exact .cons (flat1_VR hf.1 h1) (flat1_VRs hf.2 h2)
theorem flat_VR {φ ψ : Ph} {a : AV} {v : Value} (hf : flat a = true) (h : VR φ a v) : VR ψ a v := by
  cases a <;> first | (cases hf; done) | exact h | skip
  case agg l => obtain ⟨cs, rfl, h1⟩ := h.agg_inv; exact .agg (flat1_VRs hf h1)
  case tup l => obtain ⟨cs, rfl, h1⟩ := h.tup_inv; exact .tup (flat1_VRs hf h1)
/-- A value, or a row of such, as ones that are not known. -/
def mkT : AV → AV
  | .tup l => .tup (l.map mk)
  | v => mk v
theorem VRs.mk {φ : Ph} : ∀ {l : List AV} {vs : List Value}, VRs φ l vs → VRs φ (l.map Go.Proofs.Ytaejmcgcfopmkaa.mk) vs
  | [], vs, h => by rw [h.nil_inv]; exact .nil
  | a :: l, vs, h => by
    obtain ⟨v, us, rfl, h1, h2⟩ := h.cons_inv
    exact .cons h1.mk (VRs.mk h2)
theorem VR.mkT {φ : Ph} {a : AV} {v : Value} (h : VR φ a v) : VR φ (mkT a) v := by
  cases a <;> first | exact h.mk | skip
  case tup l => obtain ⟨cs, rfl, h1⟩ := h.tup_inv; exact .tup h1.mk
theorem flat_mkT {a : AV} (h : flat a = true) : flat (mkT a) = true := by
  cases a <;> first | exact h | skip
  case tup l =>
    have : ∀ {l : List AV}, l.all flat.flat1 = true → (l.map mk).all flat.flat1 = true := by
      intro l
      induction l with
      | nil => intro _; rfl
      | cons a l ih =>
        intro hf
        simp only [List.all_cons, List.map_cons, Bool.and_eq_true] at hf ⊢
        refine ⟨?_, ih hf.2⟩
        cases a <;> exact hf.1
    exact this h
/-- A function of values that point nowhere, run on no memory: what it makes on the way is forgotten. -/
theorem pureN {F : FuncId → EP} (hF : TabP F) {d : Nat} {f : FuncId} {args : List AV} {v : AV} (ha : args.all flat = true) (hv : flat v = true) (h : callT F d f args .nil 0 fun u _ _ => mkT u = mkT v)
    {φ : Ph} {H : AH} {n : Nat} {h0 hp : Hp} {vs : Array Value} {κ : PK} {K : KH} (hs : κ (mkT v) H n) (hr : HR φ H n h0 hp) (hargs : VRs φ args vs.toList) (hk : ThenP φ h0 κ K) : CallF Try.prog f vs hp K := by
  have hargs' : VRs (fun _ => none) args vs.toList := by
    have : ∀ {l : List AV} {us : List Value}, l.all flat = true → VRs φ l us → VRs (fun _ => none) l us := by
      intro l
      induction l with
      | nil => intro us _ h; rw [h.nil_inv]; exact .nil
      | cons a l ih =>
        intro us hf h
        obtain ⟨w, ws, rfl, h1, h2⟩ := h.cons_inv
        simp only [List.all_cons, Bool.and_eq_true] at hf
        exact .cons (flat_VR hf.1 h1) (ih hf.2 h2)
    exact this ha hargs
  have key : Wf hp → CallF Try.prog f vs hp K := fun hw => callT_sound (by kernel_rfl) hF d f args .nil 0 _ h (fun _ => none) hp hp vs K (start_none hw) hargs' fun ψ u H' n' w g _ hg hu he => by
    have hg2 : HR φ H n h0 g := hr.grow (fun b o hb => (hg.base b o hb).2) hg.size
    have h3 : VR φ (mkT v) w := (flat_VR (φ := ψ) (flat_mkT hv) (he ▸ hu.mkT))
    exact hk φ _ H n w g (PLe.refl _) hg2 h3 hs
  have hic : isCall Try.prog f = true := (callT_sound (by kernel_rfl) hF d f args .nil 0 _ h (fun _ => none) ⟨fun _ => none, 0⟩ ⟨fun _ => none, 0⟩ vs (fun _ _ => True) (start_none fun _ _ q => by cases q) hargs' fun _ _ _ _ _ _ _ _ _ _ => trivial).1
  exact ⟨hic, fun w hi => (key hi.wf).2 w hi⟩
/-- What the quick machine found. -/
noncomputable def natQ (g : List AV → AH → Nat → KA → AR) (args : List AV) (H : AH) (n : Nat) (κ : PK) : Prop := optP (g args H n topq) (un3 κ)
theorem natQ_ok {f : FuncId} {g : List AV → AH → Nat → KA → AR} (hg : COk Try.prog f fun args H n => g args H n topq) : NatP f (natQ g) := fun args H n κ hs φ h0 h vs K hr hargs hk => by
  obtain ⟨⟨v, H', n'⟩, h1, h2⟩ := optP_inv hs
  exact hg args H n v H' n' h1 φ h0 h vs K hr hargs (hk.then h2)
theorem natQ_sing {g : List AV → AH → Nat → KA → AR} (hg : ∀ args H n r, g args H n topq = some r → GrowsA H r.2.1 ∧ n ≤ r.2.2) : SingG (natQ g) := fun args H n κ hs => by
  obtain ⟨⟨v, H', n'⟩, h1, h2⟩ := optP_inv hs
  obtain ⟨h3, h4⟩ := hg _ _ _ _ h1
  exact ⟨v, H', n', h2, h3, h4, fun κ' k' => optP_of h1 k'⟩
theorem natTrue {d : Nat} {k : FuncId} (he : isTrue (callq evQ d k [] .nil 0 topq) = true) : NatP k (natQ trueN) := natQ_ok (trueN_ok evQ_ok he)
/-- A law that the machine finds true. -/
theorem evP_calls {F : FuncId → EP} (hF : TabP F) {d : Nat} {f : FuncId} {args : List AV} {vs : Array Value} (hargs : VRs (fun _ => none) args vs.toList)
    (he : callT F d f args .nil 0 fun v _ _ => v = .bool true ∨ v = .sb true) (w : World) : Calls Try.prog f vs w fun e w' => e = .returned (.bool true) ∧ Below w.heap.size w w' := by
  have hs := callT_sound (by kernel_rfl) hF d f args .nil 0 _ he _ (wholeHp w) (wholeHp w) vs (fun v g => v = .bool true ∧ (wholeHp w).n ≤ g.n ∧ ∀ b o, (wholeHp w).f b = some o → g.f b = some o) (wholeHp_start w) hargs
    (fun ψ v H n u g _ hg hu hv => ⟨by rcases hv with rfl | rfl; exact hu.bool_inv; exact hu.sb_inv, hg.size, fun b o hb => (hg.base b o hb).2⟩)
  refine (hs.2 w (wholeHp_is w)).mono fun e' w' ⟨v, g, h1, h2, h3, h4, h5, h6⟩ => ?_
  subst h1 h4
  refine ⟨rfl, h3.1, h3.2.1, h3.2.2, ?_, fun b hb => ?_⟩
  · rw [h2.1]; exact h5
  · have := h6 b _ (show (wholeHp w).f b = some w.heap[b] from Array.getElem?_eq_getElem hb)
    rw [h2.2 b _ this, Array.getElem?_eq_getElem hb]
end
end Go.Proofs.Ytaejmcgcfopmkaa
namespace Go.Proofs.Ytaejmcgcfopmkaa
open Go Go.RowKit
noncomputable def mkE : List (Nat × AV) → AE
  | [] => .nil
  | x :: l => (mkE l).set (some x.2) depthE x.1
noncomputable def mkH : List (Nat × AO) → AH
  | [] => .nil
  | x :: l => (mkH l).set (some x.2) depthH x.1
theorem mkE_get : ∀ {l : List (Nat × AV)} {t : Nat} {a : AV}, (mkE l).get t = some a → (t, a) ∈ l
  | [], t, a, h => by cases h
  | x :: l, t, a, h => by
    rcases PM.get_set depthE _ x.1 t a h with ⟨rfl, h2⟩ | ⟨_, h2⟩
    · injection h2 with h2; subst h2; exact List.mem_cons_self
    · exact List.mem_cons_of_mem _ (mkE_get h2)
theorem mkH_get : ∀ {l : List (Nat × AO)} {t : Nat} {a : AO}, (mkH l).get t = some a → (t, a) ∈ l
  | [], t, a, h => by cases h
  | x :: l, t, a, h => by
    rcases PM.get_set depthH _ x.1 t a h with ⟨rfl, h2⟩ | ⟨_, h2⟩
    · injection h2 with h2; subst h2; exact List.mem_cons_self
    · exact List.mem_cons_of_mem _ (mkH_get h2)
/-- Places by new names: 'r' tells the old one. -/
def Ren (m : Nat) (r : Nat → Nat) (φ ψ : Ph) : Prop := ∀ b, b < m → ψ b = φ (r b)
def SubV (m : Nat) (r : Nat → Nat) (a a' : AV) : Prop := ∀ φ ψ v, Ren m r φ ψ → VR φ a v → VR ψ a' v
def SubO (m : Nat) (r : Nat → Nat) (o o' : AO) : Prop := o.own = o'.own ∧ ∀ φ ψ p ob, Ren m r φ ψ → OR φ p o ob → OR ψ p o' ob
section
variable {m : Nat} {r : Nat → Nat}
theorem SubV.bad (a : AV) : SubV m r a .bad := fun _ _ _ _ _ => .bad _
theorem SubV.flat {a a' : AV} (h : Go.Proofs.Ytaejmcgcfopmkaa.flat a' = true) (e : mk a = mk a') : SubV m r a a' := fun φ ψ v _ hv => by
  have h1 : VR φ (mk a') v := e ▸ hv.mk
  have h2 : VR φ a' v := by cases a' <;> exact h1
  exact flat_VR h h2
theorem SubV.int {k : IntKind} {a : AV} {x : Int} (e : mk a = .si k x) : SubV m r a (.si k x) := SubV.flat rfl e
theorem SubV.bool {a : AV} {x : Bool} (e : mk a = .sb x) : SubV m r a (.sb x) := SubV.flat rfl e
theorem SubV.str {a : AV} {x : List Nat} (e : mk a = .ss x) : SubV m r a (.ss x) := SubV.flat rfl e
theorem SubV.ptr {a : AV} {b o : Nat} (hb : b < m) (e : a = .ptr (r b) o) : SubV m r a (.ptr b o) := fun φ ψ v hr hv => by
  subst e
  obtain ⟨p, h1, rfl⟩ := hv.ptr_inv
  exact .ptr (by rw [hr b hb]; exact h1)
theorem SubV.map {a : AV} {b : Nat} (hb : b < m) (e : a = .map (r b)) : SubV m r a (.map b) := fun φ ψ v hr hv => by
  subst e
  obtain ⟨p, h1, rfl⟩ := hv.map_inv
  exact .map (by rw [hr b hb]; exact h1)
theorem SubV.sy {a : AV} {b o n c k : Nat} (hb : b < m) (e : mk a = .sy (r b) o n c k) : SubV m r a (.sy b o n c k) := fun φ ψ v hr hv => by
  have h1 : VR φ (.sy (r b) o n c k) v := e ▸ hv.mk
  obtain ⟨p, C, h4, rfl, h2, h3⟩ := h1.sy_inv
  exact .sy (by rw [hr b hb]; exact h4) h2 h3
theorem SubV.sl {a : AV} {b o n c k : Nat} (hb : b < m) (e : mk a = .sy (r b) o n c k) : SubV m r a (.sl b o n c k) := fun φ ψ v hr hv => (SubV.sy hb e φ ψ v hr hv).hd
theorem SubV.same {a : AV} (h : Go.Proofs.Ytaejmcgcfopmkaa.flat a = true) : SubV m r a a := SubV.flat h rfl
theorem SubO.cells {l l' : List AV} {z z' : Bool} (hl : l'.length ≤ l.length) (hz : z' = true → z = true) (h : ∀ (i : Nat) (a' : AV), l'[i]? = some a' → ∃ a, l[i]? = some a ∧ SubV m r a a') : SubO m r (.cells l z) (.cells l' z') :=
  ⟨rfl, fun φ ψ p ob hr ⟨c, t, fz, h1, h2, h3, h4, h5, h6⟩ => ⟨c, t, fz, h1, Nat.le_trans hl h2, h3, h4, fun q => h5 (hz q), fun i a' hi => by
    obtain ⟨a, h7, h8⟩ := h i a' hi
    obtain ⟨v, h9, h10⟩ := h6 i a h7
    exact ⟨v, h9, h8 φ ψ v hr h10⟩⟩⟩
theorem SubO.ro {l l' : List AV} (hl : l'.length ≤ l.length) (h : ∀ (i : Nat) (a' : AV), l'[i]? = some a' → ∃ a, l[i]? = some a ∧ SubV m r a a') : SubO m r (.ro l) (.ro l') :=
  ⟨rfl, fun φ ψ p ob hr ⟨c, t, fz, h1, h2, h3, h6⟩ => ⟨c, t, fz, h1, Nat.le_trans hl h2, h3, fun i a' hi => by
    obtain ⟨a, h7, h8⟩ := h i a' hi
    obtain ⟨v, h9, h10⟩ := h6 i a h7
    exact ⟨v, h9, h8 φ ψ v hr h10⟩⟩⟩
theorem SubO.maps {β : Type} {f g : β → AV} {l : List β} {z : Bool} (h : ∀ x, SubV m r (f x) (g x)) : SubO m r (.cells (l.map f) z) (.cells (l.map g) z) :=
  SubO.cells (by simp) (fun q => q) fun i a' hi => by
    rw [List.getElem?_map, Option.map_eq_some_iff] at hi
    obtain ⟨x, hx, rfl⟩ := hi
    exact ⟨f x, by rw [List.getElem?_map, hx]; rfl, h x⟩
theorem flat_of1 {a : AV} (h : Go.Proofs.Ytaejmcgcfopmkaa.flat.flat1 a = true) : Go.Proofs.Ytaejmcgcfopmkaa.flat a = true := by cases a <;> first | exact h | cases h
theorem SubV.mk1 {a a' : AV} (hf : Go.Proofs.Ytaejmcgcfopmkaa.flat.flat1 a' = true) (e : mk a = mk a') : SubV m r a a' := SubV.flat (flat_of1 hf) e
theorem map_mk_at {l l' : List AV} (hf : l'.all Go.Proofs.Ytaejmcgcfopmkaa.flat.flat1 = true) (h : l.map mk = l'.map mk) (i : Nat) (a' : AV) (hi : l'[i]? = some a') : ∃ a, l[i]? = some a ∧ SubV m r a a' := by
  have e := congrArg (fun x : List AV => x[i]?) h
  simp only [List.getElem?_map, hi, Option.map_some] at e
  rw [Option.map_eq_some_iff] at e
  obtain ⟨a, h1, h2⟩ := e
  exact ⟨a, h1, .mk1 (List.all_eq_true.1 hf a' (List.mem_of_getElem? hi)) h2⟩
theorem SubO.cells_mk {l l' : List AV} {z z' : Bool} (hf : l'.all Go.Proofs.Ytaejmcgcfopmkaa.flat.flat1 = true) (h : l.map mk = l'.map mk) (hz : z' = true → z = true) : SubO m r (.cells l z) (.cells l' z') :=
  SubO.cells (by have := congrArg List.length h; simp only [List.length_map] at this; omega) hz (map_mk_at hf h)
theorem SubO.ro_mk {l l' : List AV} (hf : l'.all Go.Proofs.Ytaejmcgcfopmkaa.flat.flat1 = true) (h : l.map mk = l'.map mk) : SubO m r (.ro l) (.ro l') :=
  SubO.ro (by have := congrArg List.length h; simp only [List.length_map] at this; omega) (map_mk_at hf h)
theorem ebytes_map : ∀ {s : List Nat}, (∀ x ∈ s, x < 256) → ebytes (s.map fun c : Nat => .si .u8 (Int.ofNat c)) = some s
  | [], _ => rfl
  | c :: s, h => by
    have hc : Nat.blt c 256 = true := by rw [Nat.blt_eq]; exact h c List.mem_cons_self
    simp only [List.map_cons, ebytes, hc, ebytes_map (s := s) fun x hx => h x (List.mem_cons_of_mem _ hx), Option.map_some]
theorem conv_str {P : Program} {src dst e : TypeId} {x : AV} {H : AH} {n b o len c k : Nat} {l l2 : List AV} {z : Bool} {s : List Nat} (hx : x = .sl b o len c k) (hb : H.get b = some (.cells l z)) (hu : P.underlying src = some (.slice e)) (hd : P.underlying dst = some .string) (he : P.underlying e = some (.int .u8))
    (hl : subL l o len = some l2) (hs : ebytes l2 = some s) : econv P src dst x H n = some (.str s, H, n) := by
  subst hx
  simp only [econv, hu, hd, he, hb, hl, Option.bind_some, hs, Option.map_some]
theorem app_grow {P : Program} {t u e e2 : TypeId} {s x : AV} {H : AH} {n k by' m b o sn c : Nat} {z : Value} {l new old : List AV} {z' : Bool} (hs : s = .sl b o sn c (k + 1)) (hb : H.get b = some (.cells l z')) (hu : P.underlying t = some (.slice e)) (hu2 : P.underlying u = some (.slice e2))
    (hk : tySize P e = some (k + 1)) (hby : tyBytes P e = some by') (hz : tyZero P e = some z) (hzc : z.cells.size = k + 1) (hb0 : 0 < by') (hsrc : esrc H (k + 1) x = some (m, new)) (hnew : new.length = m * (k + 1)) (hone : new.all one1 = true) (hgt : c < sn + m) (hbig : (sn + m) * by' ≤ 140737488355328) (hold : subL l o (sn * (k + 1)) = some old) :
    eappend P t u s x H n = some (.sl n 0 (sn + m) (sn + m) (k + 1), (H.set none depthH b).set (some (.cells (old ++ new) z')) depthH n, n + 1) := by
  subst hs
  simp only [eappend, hu, hu2, hk, hby, hz, hsrc, hb, hold]
  rw [if_pos ⟨hzc, hb0, Nat.succ_pos k, hnew, hone⟩, if_neg (by omega), if_pos hbig]
  simp
theorem subL_all {α : Type} {l : List α} {n : Nat} (h : l.length = n) : subL l 0 n = some l := by
  subst h
  unfold subL
  rw [Nat.zero_add, Nat.ble_eq_true_of_le (Nat.le_refl _)]
  simp
theorem Cov.of {p n : Nat} {σ : AE} {H : AH} {le : List (Nat × AV)} {lh : List (Nat × AO)} (r : Nat → Nat) (hp : p ≤ m) (hr : ∀ b, b < p → r b = b) (he : ∀ x ∈ le, SubV m r (getq (pa x.1) σ) x.2)
    (hh : ∀ x ∈ lh, x.1 < m ∧ ∃ o, H.get (r x.1) = some o ∧ SubO m r o x.2) (hi : ∀ x ∈ lh, ∀ y ∈ lh, r x.1 = r y.1 → x.1 = y.1) : Cov p σ H n (mkE le, mkH lh, m) := fun φ h0 h ρ hR hF => by
  let ψ : Ph := fun b => if b < m then φ (r b) else none
  have hren : Ren m r φ ψ := fun b hb => by simp only [ψ, if_pos hb]
  refine ⟨ψ, fun b q hb hq => ?_, ⟨fun b q hq => ?_, fun b o hb => ?_, fun b b' o o' q q' hb hb' hw hw' hq hq' e => ?_, hR.base, hR.size⟩, fun t a ht => ?_⟩
  · simp only [ψ, if_pos (Nat.lt_of_lt_of_le hb hp), hr b hb]; exact hq
  · simp only [ψ] at hq
    split at hq
    · rename_i hb; exact ⟨hb, (hR.dom _ _ hq).2⟩
    · cases hq
  · obtain ⟨h1, o2, h2, h3, h4⟩ := hh _ (mkH_get hb)
    obtain ⟨q, ob, g1, g2, g3, g4⟩ := hR.live _ _ h2
    refine ⟨q, ob, by simp only [ψ, if_pos h1]; exact g1, ?_, g3, h4 φ ψ q ob hren g4⟩
    rw [g2]
    cases o2 <;> cases o <;> first | rfl | cases h3
  · obtain ⟨h1, o2, h2, h3, h4⟩ := hh _ (mkH_get hb)
    obtain ⟨h1', o2', h2', h3', h4'⟩ := hh _ (mkH_get hb')
    simp only [ψ, if_pos h1] at hq
    simp only [ψ, if_pos h1'] at hq'
    exact hi _ (mkH_get hb) _ (mkH_get hb') (hR.inj _ _ _ _ _ _ h2 h2' (h3.trans hw) (h3'.trans hw') hq hq' e)
  · exact he _ (mkE_get ht) φ ψ _ hren (hF.at t)
end
end Go.Proofs.Ytaejmcgcfopmkaa
namespace Go.Proofs.Ytaejmcgcfopmkaa
open Go Go.RowKit
/-- A number, known or not. -/
def asI (a : AV) (κ : Int → Prop) : Prop := match a with
  | .int .i64 n => κ n
  | .si .i64 n => κ n
  | _ => False
theorem asI_inv {φ : Ph} {a : AV} {v : Value} {κ : Int → Prop} (h : VR φ a v) (k : asI a κ) : ∃ n, v = .int .i64 n ∧ κ n := by
  unfold asI at k
  split at k
  · exact ⟨_, h.int_inv, k⟩
  · exact ⟨_, h.si_inv, k⟩
  · exact k.elim
theorem vs3 {φ : Ph} {a b c : AV} {vs : Array Value} (h : VRs φ [a, b, c] vs.toList) : ∃ x y z, vs = #[x, y, z] ∧ VR φ a x ∧ VR φ b y ∧ VR φ c z := by
  obtain ⟨x, l1, e1, h1, h2⟩ := h.cons_inv
  obtain ⟨y, l2, e2, h3, h4⟩ := h2.cons_inv
  obtain ⟨z, l3, e3, h5, h6⟩ := h4.cons_inv
  have := h6.nil_inv
  subst this e3 e2
  exact ⟨x, y, z, by cases vs; simp_all, h1, h3, h5⟩
theorem vs2 {φ : Ph} {a b : AV} {vs : Array Value} (h : VRs φ [a, b] vs.toList) : ∃ x y, vs = #[x, y] ∧ VR φ a x ∧ VR φ b y := by
  obtain ⟨x, l1, e1, h1, h2⟩ := h.cons_inv
  obtain ⟨y, l2, e2, h3, h4⟩ := h2.cons_inv
  have := h4.nil_inv
  subst this e2
  exact ⟨x, y, by cases vs; simp_all, h1, h3⟩
theorem vs1 {φ : Ph} {a : AV} {vs : Array Value} (h : VRs φ [a] vs.toList) : ∃ x, vs = #[x] ∧ VR φ a x := by
  obtain ⟨x, l1, e1, h1, h2⟩ := h.cons_inv
  have := h2.nil_inv
  subst this
  exact ⟨x, by cases vs; simp_all, h1⟩
def nat3 (f : Int → Int → Int → Int) (args : List AV) (H : AH) (n : Nat) (κ : PK) : Prop := match args with
  | [x, y, z] => asI x fun t => asI y fun s => asI z fun a => κ (.si .i64 (f t s a)) H n
  | _ => False

theorem Then.sb {φ : Ph} {H : AH} {n : Nat} {h0 h : Hp} {κ : PK} {K : KH} {b : Bool} (hr : HR φ H n h0 h) (hk : ThenP φ h0 κ K) (h1 : κ (.sb b) H n) : K (.bool b) h := hk φ _ H n _ h (PLe.refl _) hr (.sb b) h1
def mkK (κ : PK) : PK := fun v H n => κ (mk v) H n
theorem ThenP.mkK {φ : Ph} {h0 : Hp} {κ : PK} {K : KH} (hk : ThenP φ h0 κ K) : ThenP φ h0 (mkK κ) K := fun ψ v H n u g h1 h2 h3 h4 => hk ψ _ H n u g h1 h2 h3.mk h4
theorem leafB {κ : PK} {H : AH} {n : Nat} {b c : Bool} (hk : κ (.sb b) H n) (h : b = c) : κ (.sb c) H n := by subst h; exact hk
theorem leafI {κ : PK} {H : AH} {n : Nat} {k : IntKind} {b c : Int} (hk : κ (.si k b) H n) (h : b = c) : κ (.si k c) H n := by subst h; exact hk
def nat1b (f : Int → Bool) (args : List AV) (H : AH) (n : Nat) (κ : PK) : Prop := match args with
  | [x] => asI x fun t => κ (.sb (f t)) H n
  | _ => False
def nat2b (f : Int → Int → Bool) (args : List AV) (H : AH) (n : Nat) (κ : PK) : Prop := match args with
  | [x, y] => asI x fun t => asI y fun s => κ (.sb (f t s)) H n
  | _ => False
/-- Numbers as unknown ones. -/
theorem asI_si {φ : Ph} {a : AV} {v : Value} {κ : Int → Prop} (h : VR φ a v) (k : asI a κ) : ∃ n, VR φ (.si .i64 n) v ∧ κ n := by
  obtain ⟨n, rfl, k⟩ := asI_inv h k
  exact ⟨n, .si _ _, k⟩
theorem nat1b_ok {F : FuncId → EP} (hF : TabP F) {d : Nat} {f : FuncId} {g : Int → Bool} (h : ∀ (t : Int) (H : AH) (n : Nat) (κ : PK), κ (.sb (g t)) H n → callT F d f [.si .i64 t] H n (mkK κ)) : NatP f (nat1b g) := fun args H n κ hs φ h0 hp vs K hr hargs hk => by
  unfold nat1b at hs
  split at hs
  · obtain ⟨x, rfl, h1⟩ := vs1 hargs
    obtain ⟨t, h1, hs⟩ := asI_si h1 hs
    exact callT_sound (by kernel_rfl) hF d f _ H n (mkK κ) (h t H n κ hs) φ h0 hp _ K hr (.cons h1 .nil) hk.mkK
  · exact hs.elim
theorem nat2b_ok {F : FuncId → EP} (hF : TabP F) {d : Nat} {f : FuncId} {g : Int → Int → Bool} (h : ∀ (t s : Int) (H : AH) (n : Nat) (κ : PK), κ (.sb (g t s)) H n → callT F d f [.si .i64 t, .si .i64 s] H n (mkK κ)) : NatP f (nat2b g) := fun args H n κ hs φ h0 hp vs K hr hargs hk => by
  unfold nat2b at hs
  split at hs
  · obtain ⟨x, y, rfl, h1, h2⟩ := vs2 hargs
    obtain ⟨t, h1, hs⟩ := asI_si h1 hs
    obtain ⟨s, h2, hs⟩ := asI_si h2 hs
    exact callT_sound (by kernel_rfl) hF d f _ H n (mkK κ) (h t s H n κ hs) φ h0 hp _ K hr (.cons h1 (.cons h2 .nil)) hk.mkK
  · exact hs.elim
theorem nat3_ok {F : FuncId → EP} (hF : TabP F) {d : Nat} {f : FuncId} {g : Int → Int → Int → Int} (h : ∀ (t s a : Int) (H : AH) (n : Nat) (κ : PK), κ (.si .i64 (g t s a)) H n → callT F d f [.si .i64 t, .si .i64 s, .si .i64 a] H n (mkK κ)) : NatP f (nat3 g) := fun args H n κ hs φ h0 hp vs K hr hargs hk => by
  unfold nat3 at hs
  split at hs
  · obtain ⟨x, y, z, rfl, h1, h2, h3⟩ := vs3 hargs
    obtain ⟨t, h1, hs⟩ := asI_si h1 hs
    obtain ⟨s, h2, hs⟩ := asI_si h2 hs
    obtain ⟨a, h3, hs⟩ := asI_si h3 hs
    exact callT_sound (by kernel_rfl) hF d f _ H n (mkK κ) (h t s a H n κ hs) φ h0 hp _ K hr (.cons h1 (.cons h2 (.cons h3 .nil))) hk.mkK
  · exact hs.elim
def nat1s (f : Int → List Nat) (args : List AV) (H : AH) (n : Nat) (κ : PK) : Prop := match args with
  | [x] => asI x fun t => κ (.ss (f t)) H n
  | _ => False
theorem nat1s_ok {F : FuncId → EP} (hF : TabP F) {d : Nat} {f : FuncId} {g : Int → List Nat} (h : ∀ t : Int, callT F d f [.si .i64 t] .nil 0 fun u _ _ => mkT u = .ss (g t)) : NatP f (nat1s g) := fun args H n κ hs φ h0 hp vs K hr hargs hk => by
  unfold nat1s at hs
  split at hs
  · obtain ⟨x, rfl, h1⟩ := vs1 hargs
    obtain ⟨t, h1, hs⟩ := asI_si h1 hs
    exact pureN (v := .ss (g t)) hF rfl rfl (h t) hs hr (.cons h1 .nil) hk
  · exact hs.elim
/-- A text, known or not. -/
def asS (a : AV) (κ : List Nat → Prop) : Prop := match a with
  | .str s => κ s
  | .ss s => κ s
  | _ => False
theorem asS_inv {φ : Ph} {a : AV} {v : Value} {κ : List Nat → Prop} (h : VR φ a v) (k : asS a κ) : ∃ s, VR φ (.ss s) v ∧ (∀ x ∈ s, x < 256) ∧ κ s := by
  unfold asS at k
  split at k
  · exact ⟨_, h.mk, h.str_inv.2, k⟩
  · exact ⟨_, h, h.ss_inv.2, k⟩
  · exact k.elim
def natS (f : List Nat → AV) (args : List AV) (H : AH) (n : Nat) (κ : PK) : Prop := match args with
  | [x] => asS x fun s => s.length ≤ 1000000 ∧ κ (mkT (f s)) H n
  | _ => False
theorem natS_ok {F : FuncId → EP} (hF : TabP F) {d : Nat} {f : FuncId} {g : List Nat → AV} (hg : ∀ s, flat (g s) = true) (h : ∀ s : List Nat, (∀ x ∈ s, x < 256) → s.length ≤ 1000000 → callT F d f [.ss s] .nil 0 fun u _ _ => mkT u = mkT (g s)) : NatP f (natS g) := fun args H n κ hs φ h0 hp vs K hr hargs hk => by
  unfold natS at hs
  split at hs
  · obtain ⟨x, rfl, h1⟩ := vs1 hargs
    obtain ⟨s, h1, h2, h3, hs⟩ := asS_inv h1 hs
    exact pureN (v := g s) hF rfl (hg s) (h s h2 h3) hs hr (.cons h1 .nil) hk
  · exact hs.elim
def nat2i (f : Int → Int → Int) (args : List AV) (H : AH) (n : Nat) (κ : PK) : Prop := match args with
  | [x, y] => asI x fun t => asI y fun s => κ (.si .i64 (f t s)) H n
  | _ => False
theorem nat2i_ok {F : FuncId → EP} (hF : TabP F) {d : Nat} {f : FuncId} {g : Int → Int → Int} (h : ∀ (t s : Int) (H : AH) (n : Nat) (κ : PK), κ (.si .i64 (g t s)) H n → callT F d f [.si .i64 t, .si .i64 s] H n (mkK κ)) : NatP f (nat2i g) := fun args H n κ hs φ h0 hp vs K hr hargs hk => by
  unfold nat2i at hs
  split at hs
  · obtain ⟨x, y, rfl, h1, h2⟩ := vs2 hargs
    obtain ⟨t, h1, hs⟩ := asI_si h1 hs
    obtain ⟨s, h2, hs⟩ := asI_si h2 hs
    exact callT_sound (by kernel_rfl) hF d f _ H n (mkK κ) (h t s H n κ hs) φ h0 hp _ K hr (.cons h1 (.cons h2 .nil)) hk.mkK
  · exact hs.elim
/-! ### one outcome -/
theorem SingG.pure {g : List AV → AH → Nat → PK → Prop} (h : ∀ args H n κ, g args H n κ → ∃ v, κ v H n ∧ ∀ κ' : PK, κ' v H n → g args H n κ') : SingG g := fun args H n κ hs => by
  obtain ⟨v, h1, h2⟩ := h args H n κ hs
  exact ⟨v, H, n, h1, .refl _, Nat.le_refl _, h2⟩
theorem asI_sing {a : AV} {κ : Int → Prop} (h : asI a κ) : ∃ n, κ n ∧ ∀ κ' : Int → Prop, κ' n → asI a κ' := by
  unfold asI at *
  split at h
  · exact ⟨_, h, fun _ k => k⟩
  · exact ⟨_, h, fun _ k => k⟩
  · exact h.elim
theorem asS_sing {a : AV} {κ : List Nat → Prop} (h : asS a κ) : ∃ n, κ n ∧ ∀ κ' : List Nat → Prop, κ' n → asS a κ' := by
  unfold asS at *
  split at h
  · exact ⟨_, h, fun _ k => k⟩
  · exact ⟨_, h, fun _ k => k⟩
  · exact h.elim
theorem sing1b {f : Int → Bool} : SingG (nat1b f) := .pure fun args H n κ hs => by
  unfold nat1b at *
  split at hs
  · obtain ⟨x, h1, k1⟩ := asI_sing hs
    exact ⟨_, h1, fun κ' h => k1 _ h⟩
  · exact hs.elim
theorem sing1s {f : Int → List Nat} : SingG (nat1s f) := .pure fun args H n κ hs => by
  unfold nat1s at *
  split at hs
  · obtain ⟨x, h1, k1⟩ := asI_sing hs
    exact ⟨_, h1, fun κ' h => k1 _ h⟩
  · exact hs.elim
theorem sing2b {f : Int → Int → Bool} : SingG (nat2b f) := .pure fun args H n κ hs => by
  unfold nat2b at *
  split at hs
  · obtain ⟨x, h1, k1⟩ := asI_sing hs
    obtain ⟨y, h2, k2⟩ := asI_sing h1
    exact ⟨_, h2, fun κ' h => k1 _ (k2 _ h)⟩
  · exact hs.elim
theorem sing2i {f : Int → Int → Int} : SingG (nat2i f) := .pure fun args H n κ hs => by
  unfold nat2i at *
  split at hs
  · obtain ⟨x, h1, k1⟩ := asI_sing hs
    obtain ⟨y, h2, k2⟩ := asI_sing h1
    exact ⟨_, h2, fun κ' h => k1 _ (k2 _ h)⟩
  · exact hs.elim
theorem sing3 {f : Int → Int → Int → Int} : SingG (nat3 f) := .pure fun args H n κ hs => by
  unfold nat3 at *
  split at hs
  · obtain ⟨x, h1, k1⟩ := asI_sing hs
    obtain ⟨y, h2, k2⟩ := asI_sing h1
    obtain ⟨z, h3, k3⟩ := asI_sing h2
    exact ⟨_, h3, fun κ' h => k1 _ (k2 _ (k3 _ h))⟩
  · exact hs.elim
theorem singS {f : List Nat → AV} : SingG (natS f) := .pure fun args H n κ hs => by
  unfold natS at *
  split at hs
  · obtain ⟨s, ⟨h0, h1⟩, k1⟩ := asS_sing hs
    exact ⟨_, h1, fun κ' h => k1 _ ⟨h0, h⟩⟩
  · exact hs.elim
theorem singTrue : SingG (natQ trueN) := natQ_sing fun args H n r h => by
  cases args with
  | nil =>
    injection h with h
    subst h
    exact ⟨.refl _, Nat.le_refl _⟩
  | cons _ _ => cases h
end Go.Proofs.Ytaejmcgcfopmkaa
namespace Go.Proofs.Ytaejmcgcfopmkaa
open Go Go.RowKit
def sRight (k : Int) : Bool := decide (1 ≤ k ∧ k ≤ 7)
def sCan (s a : Int) : Bool := decide (1 ≤ s ∧ s ≤ 1099511627776 ∧ 0 ≤ a ∧ a < s)
def sTime (t : Int) : Bool := decide (0 ≤ t ∧ t ≤ 1099511627776)
def sStart (t s a : Int) : Int := if sCan s a = true ∧ sTime t = true ∧ a ≤ t then t - (t - a) % s else 0
def sEnd (b s a : Int) : Int := if sCan s a = true ∧ sTime b = true then (if b < a then a else sStart b s a + s) else 0
theorem sStart_bounds {t s a : Int} : 0 ≤ sStart t s a ∧ sStart t s a ≤ 1099511627776 := by
  unfold sStart
  split
  · rename_i h
    simp only [sCan, sTime, decide_eq_true_eq] at h
    have hm1 := Int.emod_nonneg (t - a) (show s ≠ 0 by omega)
    have hm2 := Int.emod_add_mul_ediv (t - a) s
    have hm3 := Int.mul_nonneg (show 0 ≤ s by omega) (Int.ediv_nonneg (show 0 ≤ t - a by omega) (show 0 ≤ s by omega))
    omega
  · omega
def sOver (a b : Int) : Bool := decide (0 ≤ b ∧ IntKind.i64.wrap (a + b) < a ∨ b < 0 ∧ a < IntKind.i64.wrap (a + b))
def sCap (a b : Int) : Int := if sOver a b = true then (if 0 < b then 9223372036854775807 else -9223372036854775808) else IntKind.i64.wrap (a + b)
set_option maxRecDepth 100000 in
theorem n_right : NatP 14 (nat1b sRight) := nat1b_ok (d := 1) evP_ok fun t H n κ hk => by
  repeat' (conv => whnf
           first | refine Fork.dec (fun _ => ?_) (fun _ => ?_) | refine Fork.ndec (fun _ => ?_) (fun _ => ?_) | refine leafB hk ?_)
  all_goals simp [sRight, *]
set_option maxRecDepth 100000 in
theorem n_can : NatP 34 (nat2b sCan) := nat2b_ok (d := 1) evP_ok fun s a H n κ hk => by
  repeat' (conv => whnf
           first | refine Fork.dec (fun _ => ?_) (fun _ => ?_) | refine Fork.ndec (fun _ => ?_) (fun _ => ?_) | refine leafB hk ?_)
  all_goals simp [sCan, *]
set_option maxRecDepth 100000 in
theorem n_time : NatP 35 (nat1b sTime) := nat1b_ok (d := 1) evP_ok fun s H n κ hk => by
  repeat' (conv => whnf
           first | refine Fork.dec (fun _ => ?_) (fun _ => ?_) | refine Fork.ndec (fun _ => ?_) (fun _ => ?_) | refine leafB hk ?_)
  all_goals simp [sTime, *]
noncomputable def FA : FuncId → EP := withS 34 (nat2b sCan) (withS 35 (nat1b sTime) (withS 14 (nat1b sRight) evP))
theorem FA_ok : TabP FA := withS_ok (withS_ok (withS_ok evP_ok n_right sing1b) n_time sing1b) n_can sing2b
set_option maxRecDepth 100000 in
theorem n_start : NatP 17 (nat3 sStart) := nat3_ok (d := 2) FA_ok fun t s a H n κ hk => by
  repeat' (conv => whnf
           first | refine Fork.dec (fun _ => ?_) (fun _ => ?_) | refine Fork.ndec (fun _ => ?_) (fun _ => ?_) | refine Fork.sb (fun _ => ?_) (fun _ => ?_) | refine Fork.nsb (fun _ => ?_) (fun _ => ?_) | refine And.intro ?_ ?_ | refine leafI hk ?_)
  · rename_i h1
    simp [sStart, sCan, h1]
  · rename_i h2 h1
    simp [sStart, sTime, h1]
  · rename_i h3 h2 h1
    unfold sStart
    rw [if_neg (by omega)]
  · intro h0
    omega
  · rename_i h3 h2 h1
    rw [wrap_i64_of (x := t - a) (by omega) (by omega), Int.tmod_eq_emod_of_nonneg (by omega)]
    have hm1 := Int.emod_nonneg (t - a) (show s ≠ 0 by omega)
    have hm2 := Int.emod_lt_of_pos (t - a) (show 0 < s by omega)
    rw [wrap_i64_of (by omega) (by omega)]
    simp only [sStart, sCan, sTime, decide_eq_true_eq]
    rw [if_pos (by omega)]
noncomputable def FB : FuncId → EP := withS 17 (nat3 sStart) FA
theorem FB_ok : TabP FB := withS_ok FA_ok n_start sing3
set_option maxRecDepth 100000 in
theorem n_end : NatP 19 (nat3 sEnd) := nat3_ok (d := 2) FB_ok fun b s a H n κ hk => by
  repeat' (conv => whnf
           first | refine Fork.dec (fun _ => ?_) (fun _ => ?_) | refine Fork.ndec (fun _ => ?_) (fun _ => ?_) | refine Fork.sb (fun _ => ?_) (fun _ => ?_) | refine Fork.nsb (fun _ => ?_) (fun _ => ?_) | refine And.intro ?_ ?_ | refine leafI hk ?_)
  · rename_i h1
    simp [sEnd, sCan, h1]
  · rename_i h2 h1
    simp [sEnd, sTime, h1]
  · rename_i h3 h2 h1
    simp [sEnd, sCan, sTime, h1, h2, h3]
  · rename_i h3 h2 h1
    have hb := sStart_bounds (t := b) (s := s) (a := a)
    rw [wrap_i64_of (by omega) (by omega)]
    simp [sEnd, sCan, sTime, h1, h2, h3]
theorem known_true : isTrue (callq evQ 30 11 [] .nil 0 topq) = true := by kernel_rfl
theorem n_known : NatP 11 (natQ trueN) := natTrue known_true
noncomputable def FC : FuncId → EP := withS 11 (natQ trueN) (withS 19 (nat3 sEnd) FB)
theorem FC_ok : TabP FC := withS_ok (withS_ok FB_ok n_end sing3) n_known singTrue
structure TimesOk (t s a : Int) : Prop where
  s1 : 1 ≤ s
  s2 : s ≤ 1099511627776
  a1 : 0 ≤ a
  a2 : a < s
  t1 : 0 ≤ t
  t2 : t < 1099511627776
theorem mod_facts (x s : Int) (hs : 1 ≤ s) : 0 ≤ x % s ∧ x % s < s ∧ x - x % s = s * (x / s) := by
  have h1 := Int.emod_nonneg x (show s ≠ 0 by omega)
  have h2 := Int.emod_lt_of_pos x (show 0 < s by omega)
  have h3 := Int.emod_add_mul_ediv x s
  exact ⟨h1, h2, by omega⟩
theorem start_eq {t s a : Int} (h1 : 1 ≤ s) (h2 : s ≤ 1099511627776) (h3 : 0 ≤ a) (h4 : a < s) (h5 : 0 ≤ t) (h6 : t ≤ 1099511627776) : sStart t s a = if a ≤ t then t - (t - a) % s else 0 := by
  unfold sStart
  have e1 : sCan s a = true := by simp only [sCan, decide_eq_true_eq]; omega
  have e2 : sTime t = true := by simp only [sTime, decide_eq_true_eq]; omega
  by_cases h : a ≤ t
  · rw [if_pos ⟨e1, e2, h⟩, if_pos h]
  · rw [if_neg (fun k => h k.2.2), if_neg h]
theorem end_eq {t s a : Int} (h1 : 1 ≤ s) (h2 : s ≤ 1099511627776) (h3 : 0 ≤ a) (h4 : a < s) (h5 : 0 ≤ t) (h6 : t ≤ 1099511627776) : sEnd t s a = if t < a then a else sStart t s a + s := by
  unfold sEnd
  have e1 : sCan s a = true := by simp only [sCan, decide_eq_true_eq]; omega
  have e2 : sTime t = true := by simp only [sTime, decide_eq_true_eq]; omega
  rw [if_pos ⟨e1, e2⟩]
theorem mod_shift (q s r : Int) (hs : 1 ≤ s) (h0 : 0 ≤ r) (h1 : r < s) : (s * q + r) % s = r := by
  rw [Int.mul_add_emod_self_left]; exact Int.emod_eq_of_lt h0 h1
theorem times_law {t s a : Int} (h : TimesOk t s a) : sStart t s a ≤ t ∧ t < sEnd (sStart t s a) s a ∧ sEnd (sStart t s a) s a - sStart t s a ≤ s ∧ sStart (sStart t s a) s a = sStart t s a ∧ sEnd t s a = sEnd (sStart t s a) s a ∧
    (1099511627776 < sEnd (sStart t s a) s a ∨ sStart (sEnd (sStart t s a) s a) s a = sEnd (sStart t s a) s a) ∧ (sStart t s a = 0 ∨ sEnd (sStart t s a - 1) s a = sStart t s a) := by
  obtain ⟨h1, h2, h3, h4, h5, h6⟩ := h
  have eS := start_eq h1 h2 h3 h4 h5 (by omega)
  by_cases hta : a ≤ t
  · rw [if_pos hta] at eS
    obtain ⟨m1, m2, m3⟩ := mod_facts (t - a) s h1
    have hq : 0 ≤ (t - a) / s := Int.ediv_nonneg (by omega) (by omega)
    generalize (t - a) / s = q at m3 hq
    have hsq : 0 ≤ s * q := Int.mul_nonneg (by omega) hq
    have hb : sStart t s a = a + s * q := by omega
    have hbt : a + s * q ≤ t := by omega
    have hbb : sStart (a + s * q) s a = a + s * q := by
      rw [start_eq h1 h2 h3 h4 (by omega) (by omega), if_pos (by omega), show a + s * q - a = s * q + 0 from by omega, mod_shift q s 0 h1 (by omega) (by omega)]; omega
    have he : sEnd (a + s * q) s a = a + s * q + s := by
      rw [end_eq h1 h2 h3 h4 (by omega) (by omega), if_neg (by omega), hbb]
    rw [hb, hbb, he]
    refine ⟨hbt, by omega, by omega, rfl, ?_, ?_, ?_⟩
    · rw [end_eq h1 h2 h3 h4 h5 (by omega), if_neg (by omega), hb]
    · by_cases hM : 1099511627776 < a + s * q + s
      · exact .inl hM
      · refine .inr ?_
        have e3 : a + s * q + s - a = s * (q + 1) + 0 := by rw [Int.mul_add]; omega
        rw [start_eq h1 h2 h3 h4 (by omega) (by omega), if_pos (by omega), e3, mod_shift (q + 1) s 0 h1 (by omega) (by omega)]; omega
    · by_cases h0 : a + s * q = 0
      · exact .inl h0
      · refine .inr ?_
        rw [end_eq h1 h2 h3 h4 (by omega) (by omega)]
        by_cases hq0 : q = 0
        · subst hq0
          rw [if_pos (by omega)]; omega
        · have hsq1 : s ≤ s * q := by
            have := Int.mul_le_mul_of_nonneg_left (show 1 ≤ q by omega) (show 0 ≤ s by omega)
            omega
          rw [if_neg (by omega), start_eq h1 h2 h3 h4 (by omega) (by omega), if_pos (by omega)]
          have e3 : a + s * q - 1 - a = s * (q - 1) + (s - 1) := by rw [Int.mul_sub]; omega
          rw [e3, mod_shift (q - 1) s (s - 1) h1 (by omega) (by omega)]; omega
  · rw [if_neg hta] at eS
    have h00 : sStart 0 s a = 0 := by rw [start_eq h1 h2 h3 h4 (by omega) (by omega), if_neg (by omega)]
    have he : sEnd 0 s a = a := by rw [end_eq h1 h2 h3 h4 (by omega) (by omega), if_pos (by omega)]
    rw [eS, h00, he]
    refine ⟨by omega, by omega, by omega, rfl, ?_, ?_, .inl rfl⟩
    · rw [end_eq h1 h2 h3 h4 h5 (by omega), if_pos (by omega)]
    · refine .inr ?_
      rw [start_eq h1 h2 h3 h4 (by omega) (by omega), if_pos (by omega)]
      simp
end Go.Proofs.Ytaejmcgcfopmkaa
namespace Go.Proofs.Ytaejmcgcfopmkaa
open Go Go.RowKit
def sName (k : Int) : List Nat :=
  if k = 1 then [115, 117, 109] else if k = 2 then [109, 105, 110] else if k = 3 then [109, 97, 120] else if k = 4 then [99, 111, 117, 110, 116] else if k = 5 then [102, 105, 114, 115, 116]
  else if k = 6 then [108, 97, 115, 116] else if k = 7 then [114, 97, 110, 103, 101] else []
theorem kinds {k : Int} (h1 : ¬ k < 1) (h2 : ¬ 7 < k) : k = 1 ∨ k = 2 ∨ k = 3 ∨ k = 4 ∨ k = 5 ∨ k = 6 ∨ k = 7 := by omega
set_option maxRecDepth 100000 in
theorem n_rname : NatP 15 (nat1s sName) := nat1s_ok (d := 1) evP_ok fun k => by
  conv => whnf
  refine Fork.dec (fun h1 => ?_) (fun h1 => ?_)
  · conv => whnf
    have : sName k = [] := by unfold sName; repeat' rw [if_neg (by omega)]
    rw [this]; rfl
  · conv => whnf
    refine Fork.dec (fun h2 => ?_) (fun h2 => ?_)
    · conv => whnf
      have : sName k = [] := by unfold sName; repeat' rw [if_neg (by omega)]
      rw [this]; rfl
    · rcases kinds h1 h2 with rfl | rfl | rfl | rfl | rfl | rfl | rfl
      · conv => whnf
        exact Idx.mk 0 rfl (by decide) rfl
      · conv => whnf
        exact Idx.mk 1 rfl (by decide) rfl
      · conv => whnf
        exact Idx.mk 2 rfl (by decide) rfl
      · conv => whnf
        exact Idx.mk 3 rfl (by decide) rfl
      · conv => whnf
        exact Idx.mk 4 rfl (by decide) rfl
      · conv => whnf
        exact Idx.mk 5 rfl (by decide) rfl
      · conv => whnf
        exact Idx.mk 6 rfl (by decide) rfl
set_option maxRecDepth 100000 in
theorem n_name : NatP 16 (nat1s sName) := nat1s_ok (d := 2) FA_ok fun k => by
  conv => whnf
  refine Fork.nsb (fun h1 => ?_) (fun h1 => ?_)
  · conv => whnf
    have : sName k = [] := by
      simp only [sRight, decide_eq_false_iff_not] at h1
      unfold sName; repeat' rw [if_neg (by omega)]
    rw [this]; rfl
  · simp only [sRight, decide_eq_true_eq] at h1
    rcases kinds (k := k) (by omega) (by omega) with rfl | rfl | rfl | rfl | rfl | rfl | rfl
    · conv => whnf
      exact Idx.mk 1 rfl (by decide) rfl
    · conv => whnf
      exact Idx.mk 2 rfl (by decide) rfl
    · conv => whnf
      exact Idx.mk 3 rfl (by decide) rfl
    · conv => whnf
      exact Idx.mk 4 rfl (by decide) rfl
    · conv => whnf
      exact Idx.mk 5 rfl (by decide) rfl
    · conv => whnf
      exact Idx.mk 6 rfl (by decide) rfl
    · conv => whnf
      exact Idx.mk 7 rfl (by decide) rfl
end Go.Proofs.Ytaejmcgcfopmkaa
