/- The machine on values that stand for any: what it asks is asked as a proposition, branch by branch. -/
import Derived.Test.YtaejmcgcfopmkaaEvT
namespace Go.Proofs.Ytaejmcgcfopmkaa
open Go Go.RowKit
abbrev PK := AV → AH → Nat → Prop
abbrev CP := FuncId → List AV → AH → Nat → PK → Prop
abbrev KP := AE → AH → Nat → Prop
def optP {α : Type} (o : Option α) (k : α → Prop) : Prop := match o with
  | some a => k a
  | none => False
def bifP (b : Bool) (t e : Prop) : Prop := match b with
  | true => t
  | false => e
/-- A way that parts by a truth that is not known. -/
structure Fork (b : Bool) (A B : Prop) : Prop where
  t : b = true → A
  f : b = false → B
theorem Fork.dec {p : Prop} [Decidable p] {A B : Prop} (t : p → A) (f : ¬ p → B) : Fork (decide p) A B := ⟨fun h => t (of_decide_eq_true h), fun h => f (of_decide_eq_false h)⟩
theorem Fork.ndec {p : Prop} [Decidable p] {A B : Prop} (t : ¬ p → A) (f : p → B) : Fork (!decide p) A B := ⟨fun h => t (by simpa using h), fun h => f (by simpa using h)⟩

/-- What is known by a proof, not by reckoning. -/
inductive Ask {α : Type} (o : Option α) (κ : α → Prop) : Prop where
  | mk (a : α) (h : o = some a) (k : κ a)
/-- An index that is not known. -/
inductive Idx (i : Int) (len : Nat) (κ : Nat → Prop) : Prop where
  | mk (j : Nat) (h : i = (j : Int)) (lt : j < len) (k : κ j)
/-- A value as one that is known. -/
def hd : AV → AV
  | .si k n => .int k n
  | .sb b => .bool b
  | .ss s => .str s
  | .sy b o n c k => .sl b o n c k
  | v => v
/-- A value as one that is not known. -/
def mk : AV → AV
  | .int k n => .si k n
  | .bool b => .sb b
  | .str s => .ss s
  | .sl b o n c k => .sy b o n c k
  | v => v
def isS : AV → Bool
  | .si _ _ => true
  | .sb _ => true
  | .ss _ => true
  | .sy _ _ _ _ _ => true
  | _ => false

theorem Fork.sb {A B : Prop} {b : Bool} (t : b = true → A) (f : b = false → B) : Fork b A B := ⟨t, f⟩
theorem Fork.nsb {A B : Prop} {b : Bool} (t : b = false → A) (f : b = true → B) : Fork (!b) A B := ⟨fun h => t (by simpa using h), fun h => f (by simpa using h)⟩

/-! ### operations -/
/-- 'c': the second number is known. -/
def symP (op : BinOp) (k j : IntKind) (a b : Int) (c : Bool) (κ : AV → Prop) : Prop := match op with
  | .shl => (match c with
    | true => bifP (ltq b 0) False (κ (.si k (k.wrap (a * 2 ^ min b.toNat k.bits))))
    | false => 0 ≤ b ∧ κ (.si k (k.wrap (a * 2 ^ min b.toNat k.bits))))
  | .shr => (match c with
    | true => bifP (ltq b 0) False (κ (.si k (a.fdiv (2 ^ min b.toNat k.bits))))
    | false => 0 ≤ b ∧ κ (.si k (a.fdiv (2 ^ min b.toNat k.bits))))
  | op => bifP (kindq k j) (match op with
    | .add => κ (.si k (k.wrap (a + b)))
    | .sub => κ (.si k (k.wrap (a - b)))
    | .mul => κ (.si k (k.wrap (a * b)))
    | .quo => (match c with
      | true => bifP (eqq b 0) False (κ (.si k (k.wrap (a.tdiv b))))
      | false => b ≠ 0 ∧ κ (.si k (k.wrap (a.tdiv b))))
    | .rem => (match c with
      | true => bifP (eqq b 0) False (κ (.si k (a.tmod b)))
      | false => b ≠ 0 ∧ κ (.si k (a.tmod b)))
    | .and => κ (.si k (bitsV .and k a b))
    | .or => κ (.si k (bitsV .or k a b))
    | .xor => κ (.si k (bitsV .xor k a b))
    | .andNot => κ (.si k (bitsV .andNot k a b))
    | .eql => κ (.sb (decide (a = b)))
    | .neq => κ (.sb (!decide (a = b)))
    | .lss => κ (.sb (decide (a < b)))
    | .leq => κ (.sb (decide (a ≤ b)))
    | .gtr => κ (.sb (decide (b < a)))
    | .geq => κ (.sb (decide (b ≤ a)))
    | _ => False) False
def strP (op : BinOp) (a b : List Nat) (κ : AV → Prop) : Prop := match op with
  | .add => a.length + b.length ≤ 9223372036854775807 ∧ κ (.ss (a ++ b))
  | .eql => κ (.sb (beqL a b))
  | .neq => κ (.sb (!beqL a b))
  | .lss => κ (.sb (ltL a b))
  | .leq => κ (.sb (ltL a b || beqL a b))
  | .gtr => κ (.sb (!(ltL a b || beqL a b)))
  | .geq => κ (.sb (!ltL a b))
  | _ => False
noncomputable def bolP (op : BinOp) (t : TypeId) (a b : Bool) (κ : AV → Prop) : Prop := bifP (isBoolT Try.prog t) (match op with
  | .eql => κ (.sb (a == b))
  | .neq => κ (.sb (!(a == b)))
  | _ => False) False
noncomputable def binP (op : BinOp) (t : TypeId) (x y : AV) (H : AH) (κ : AV → Prop) : Prop := match x, y with
  | .int k a, .int j b => optP (eint op k j a b) κ
  | .int k a, .si j b => symP op k j a b false κ
  | .si k a, .int j b => symP op k j a b true κ
  | .si k a, .si j b => symP op k j a b false κ
  | .ss a, .ss b => strP op a b κ
  | .ss a, .str b => strP op a b κ
  | .str a, .ss b => strP op a b κ
  | .sb a, .sb b => bolP op t a b κ
  | .sb a, .bool b => bolP op t a b κ
  | .bool a, .sb b => bolP op t a b κ
  | x, y => optP (ebin Try.prog op t x y H) κ
noncomputable def unP (op : UnOp) (x : AV) (κ : AV → Prop) : Prop := match op, x with
  | .not, .sb b => κ (.sb (!b))
  | .neg, .si k n => κ (.si k (k.wrap (0 - n)))
  | .xor, .si k n => κ (.si k (bitsV .xor k (if k.signed then -1 else k.max) n))
  | op, x => optP (eun op x) κ
def pickP (c : AV) (A B : Prop) : Prop := match c with
  | .bool true => A
  | .bool false => B
  | .sb q => Fork q A B
  | _ => False
def intKindOf (P : Program) (t : TypeId) : Option IntKind := match P.underlying t with
  | some (.int k) => some k
  | _ => none
/-- What is yielded, taken apart (so that a name stays a number that reckons). -/
noncomputable def un3 (κ : PK) (r : AV × AH × Nat) : Prop := Prod.rec (fun v q => Prod.rec (fun H n => κ v H n) q) r
noncomputable def slowP (o : Op) (σ : AE) (H : AH) (n : Nat) (κ : PK) : Prop := optP (estep Try.prog noCall o σ H n) (un3 κ)
noncomputable def mmP (mx : Bool) (x y : AV) (κ : AV → Prop) : Prop := match x, y with
  | .si k a, .si _ b => κ (.si k (if mx then max a b else min a b))
  | .si k a, .int _ b => κ (.si k (if mx then max a b else min a b))
  | .int k a, .si _ b => κ (.si k (if mx then max a b else min a b))
  | x, y => optP (emm mx x y) κ
noncomputable def lenP (t : TypeId) (x : AV) (H : AH) (κ : AV → Prop) : Prop := match x with
  | .ss _ => optP (elen Try.prog t (hd x) H) fun v => κ (mk v)
  | .sy _ _ _ _ _ => optP (elen Try.prog t (hd x) H) fun v => κ (mk v)
  | _ => optP (elen Try.prog t x H) κ
noncomputable def ixP (ix : AV) (len : Nat) (s : Bool) (κ : Nat → Prop) : Prop := match ix, s with
  | .si _ i, _ => Idx i len κ
  | .int _ i, true => Idx i len κ
  | _, _ => optP (eix ix len) κ
noncomputable def indexAddrP (t : TypeId) (x ix : AV) (κ : AV → Prop) : Prop := match Try.prog.underlying t, x with
  | some (.slice e), .sl b o n _ _ => optP (tySize Try.prog e) fun k => ixP ix n false fun i => κ (.ptr b (o + i * k))
  | some (.slice e), .sy b o n _ _ => optP (tySize Try.prog e) fun k => ixP ix n true fun i => κ (.ptr b (o + i * k))
  | some (.array len e), .ptr b o => optP (tySize Try.prog e) fun k => ixP ix len false fun i => κ (.ptr b (o + i * k))
  | _, _ => False
noncomputable def indexP (t : TypeId) (x ix : AV) (κ : AV → Prop) : Prop := match Try.prog.underlying t, x with
  | some (.array len e), .agg l => optP (tySize Try.prog e) fun k => ixP ix len false fun i => optP (epart Try.prog e l (i * k)) κ
  | some .string, .str s => ixP ix s.length false fun i => optP (nth s i) fun c => (match ix with
    | .int _ _ => κ (.int .u8 (Int.ofNat c))
    | _ => κ (.si .u8 (Int.ofNat c)))
  | some .string, .ss s => ixP ix s.length true fun i => Ask (nth s i) fun c => κ (.si .u8 (Int.ofNat c))
  | _, _ => False
noncomputable def getP (l : List AV) (t : TypeId) (o : Nat) (κ : AV → Prop) : Prop := match tyAgg Try.prog t with
  | some false => optP (nth l o) κ
  | some true => optP (tySize Try.prog t) fun m => optP (subL l o m) fun r => κ (.agg r)
  | none => False
noncomputable def loadP (t : TypeId) (a : AV) (H : AH) (κ : AV → Prop) : Prop := match a with
  | .ptr b o => (match H.get b with
    | some (.cells l _) => getP l t o κ
    | some (.ro l) => getP l t o κ
    | _ => False)
  | _ => False
noncomputable def storeP (t : TypeId) (a v : AV) (H : AH) (n : Nat) (κ : PK) : Prop := match a with
  | .ptr b o => (match H.get b with
    | some (.cells l z) => optP (tySize Try.prog t) fun s => bifP (Nat.beq v.cells.length s && (okC v && v.cells.all one1)) (optP (setL l o v.cells) fun l' => κ undefA (H.set (some (.cells l' z)) depthH b) n) False
    | _ => False)
  | _ => False
noncomputable def mk3 (κ : PK) (r : AV × AH × Nat) : Prop := un3 (fun v H n => κ (mk v) H n) r
noncomputable def appendP (t u : TypeId) (s x : AV) (H : AH) (n : Nat) (κ : PK) : Prop := bifP (isS s || isS x) (Ask (eappend Try.prog t u (hd s) (hd x) H n) (mk3 κ)) (optP (eappend Try.prog t u s x H n) (un3 κ))
noncomputable def copyP (t : TypeId) (s x : AV) (H : AH) (n : Nat) (κ : PK) : Prop := bifP (isS s || isS x) (Ask (ecopy Try.prog t (hd s) (hd x) H n) (mk3 κ)) (optP (ecopy Try.prog t s x H n) (un3 κ))
noncomputable def makeP (t : TypeId) (l c : AV) (H : AH) (n : Nat) (κ : PK) : Prop := bifP (isS l || isS c) (Ask (emake Try.prog t (hd l) (hd c) H n) (mk3 κ)) (optP (emake Try.prog t l c H n) (un3 κ))
noncomputable def sliceP (t : TypeId) (x : AV) (lo hi mx : Option AV) (κ : AV → Prop) : Prop := bifP (isS x || (optS lo || (optS hi || optS mx))) (Ask (eslice Try.prog t (hd x) (lo.map hd) (hi.map hd) (mx.map hd)) fun v => κ (mk v)) (optP (eslice Try.prog t x lo hi mx) κ)
where optS : Option AV → Bool
  | some v => isS v
  | none => false
noncomputable def callP (c : Call) (call : CP) (σ : AE) (H : AH) (n : Nat) (κ : PK) : Prop := match c.callee with
  | .value f => (match eev σ f with
    | .fn g a cs => call g (a ++ c.args.toList.map (eev σ) ++ cs) H n κ
    | _ => False)
  | .builtin .len => (match c.argTypes.toList, c.args.toList.map (eev σ) with
    | [t], [x] => lenP t x H fun v => κ v H n
    | _, _ => False)
  | .builtin .min => (match c.args.toList.map (eev σ) with
    | [x, y] => mmP false x y fun v => κ v H n
    | _ => False)
  | .builtin .max => (match c.args.toList.map (eev σ) with
    | [x, y] => mmP true x y fun v => κ v H n
    | _ => False)
  | .builtin .append => (match c.argTypes.toList, c.args.toList.map (eev σ) with
    | [t, u], [s, x] => appendP t u s x H n κ
    | _, _ => False)
  | .builtin .copy => (match c.argTypes.toList, c.args.toList.map (eev σ) with
    | [t, _], [s, x] => copyP t s x H n κ
    | _, _ => False)
  | _ => False
noncomputable def convP (src dst : TypeId) (x : AV) (H : AH) (n : Nat) (κ : PK) : Prop := match x with
  | .si _ a => (match intKindOf Try.prog src, intKindOf Try.prog dst with
    | some _, some k => κ (.si k (k.wrap a)) H n
    | _, _ => False)
  | _ => bifP (isS x) (Ask (econv Try.prog src dst (hd x) H n) (mk3 κ)) (optP (econv Try.prog src dst x H n) (un3 κ))
noncomputable def stepP (o : Op) (call : CP) (σ : AE) (H : AH) (n : Nat) (κ : PK) : Prop := match o with
  | .move x => κ (eev σ x) H n
  | .assign x => κ (eev σ x) H n
  | .pick c a b => pickP (eev σ c) (κ (eev σ a) H n) (κ (eev σ b) H n)
  | .load t a => loadP t (eev σ a) H fun v => κ v H n
  | .store t a x => storeP t (eev σ a) (eev σ x) H n κ
  | .binOp op t x y _ => binP op t (eev σ x) (eev σ y) H fun v => κ v H n
  | .unOp op _ x => unP op (eev σ x) fun v => κ v H n
  | .indexAddr t x ix => indexAddrP t (eev σ x) (eev σ ix) fun v => κ v H n
  | .index t x ix => indexP t (eev σ x) (eev σ ix) fun v => κ v H n
  | .slice t x lo hi mx => sliceP t (eev σ x) (lo.map (eev σ)) (hi.map (eev σ)) (mx.map (eev σ)) fun v => κ v H n
  | .makeSlice t l c => makeP t (eev σ l) (eev σ c) H n κ
  | .convert s d x => convP s d (eev σ x) H n κ
  | .call c => callP c call σ H n κ
  | o => slowP o σ H n κ

/-! ### code -/
noncomputable def opP (ops : Array Oper) (o : Oper) (call : CP) (σ : AE) (H : AH) (n : Nat) (k : KP) : Prop := match o.guard with
  | none => stepP o.op call σ H n fun v H n => k (eput σ o.dst v) H n
  | some (j, want) => (match gslot ops j with
    | none => False
    | some t => (match getq (pa t) σ with
      | .bool q => (match q == want with
        | true => stepP o.op call σ H n fun v H n => k (eput σ o.dst v) H n
        | false => k (eput σ o.dst undefA) H n)
      | .sb q => (match want with
        | true => Fork q (stepP o.op call (eput σ (some t) (.bool true)) H n fun v H n => k (eput (eput σ (some t) (.bool true)) o.dst v) H n) (k (eput (eput σ (some t) (.bool false)) o.dst undefA) H n)
        | false => Fork q (k (eput (eput σ (some t) (.bool true)) o.dst undefA) H n) (stepP o.op call (eput σ (some t) (.bool false)) H n fun v H n => k (eput (eput σ (some t) (.bool false)) o.dst v) H n))
      | .tup _ => k (eput σ o.dst undefA) H n
      | _ => False))
noncomputable def opsP (ops : Array Oper) (l : List Oper) : CP → AE → AH → Nat → KP → Prop :=
  List.rec (fun _ σ H n k => k σ H n) (fun o _ ih call σ H n k => opP ops o call σ H n fun σ H n => ih call σ H n k) l
abbrev XP := CP → AE → AH → Nat → KP → (Nat → KP) → KP → Prop
/-- A known truth put into its slot. -/
noncomputable def refP (c : Operand) (q : Bool) (σ : AE) : AE := match c with
  | .tmp t => eput σ (some t) (.bool q)
  | _ => σ
noncomputable def condP (c : Operand) (σ : AE) (A B : AE → Prop) : Prop := match eev σ c with
  | .bool true => A σ
  | .bool false => B σ
  | .sb q => Fork q (A (refP c true σ)) (B (refP c false σ))
  | _ => False
/-- What stands for one state stands for another one, whose blocks below p have the same names. -/
def Cov (p : Nat) (σ : AE) (H : AH) (n : Nat) (s : AE × AH × Nat) : Prop := ∀ (φ : Ph) (h0 h : Hp) (ρ : Env), HR φ H n h0 h → FR φ σ ρ → ∃ ψ : Ph, (∀ b q, b < p → φ b = some q → ψ b = some q) ∧ HR ψ s.2.1 s.2.2 h0 h ∧ FR ψ s.1 ρ
/-- A loop walked to its end, at most k times. -/
noncomputable def rollP (k : Nat) (body : AE → AH → Nat → KP → Prop) : KP := Nat.rec (fun _ _ _ => False) (fun _ ih σ H n => body σ H n ih) k
inductive LoopP (p : Nat) (body : AE → AH → Nat → KP → Prop) (σ : AE) (H : AH) (n : Nat) : Prop where
  | mk (α : Type) (m : Nat) (st : α → AE × AH) (μ : α → Nat) (a0 : α) (h0 : Cov p σ H n ((st a0).1, (st a0).2, m)) (h : ∀ a, body (st a).1 (st a).2 m fun σ' H' n' => ∃ a', μ a' < μ a ∧ Cov p σ' H' n' ((st a').1, (st a').2, m))
  | roll (k : Nat) (h : rollP k body σ H n)
/-! ### a region that draws its order -/
/-- Of one operation: how many places back the memory is that it looks at (none: it is a call), and its slots. -/
abbrev DB := Option Nat × List Nat
abbrev DT := List (Nat × List DB)
noncomputable def findD (D : DT) (id : Nat) : Option (List DB) := List.rec none (fun x _ ih => Bool.rec ih (some x.2) (Nat.beq x.1 id)) D
noncomputable def filtq (σ : AE) (ts : List Nat) : AE := List.rec .nil (fun t _ ih => setq (getq (pa t) σ) (pa t) ih) ts
/-- An operation that only looks. -/
noncomputable def qP (o : Op) (σ : AE) (H : AH) (κ : AV → Prop) : Prop := match o with
  | .move x => κ (eev σ x)
  | .assign x => κ (eev σ x)
  | .pick c a b => pickP (eev σ c) (κ (eev σ a)) (κ (eev σ b))
  | .load t a => loadP t (eev σ a) H κ
  | .binOp op t x y _ => binP op t (eev σ x) (eev σ y) H κ
  | .unOp op _ x => unP op (eev σ x) κ
  | .indexAddr t x ix => indexAddrP t (eev σ x) (eev σ ix) κ
  | .index t x ix => indexP t (eev σ x) (eev σ ix) κ
  | .slice t x lo hi mx => sliceP t (eev σ x) (lo.map (eev σ)) (hi.map (eev σ)) (mx.map (eev σ)) κ
  | .call ⟨.builtin .len, xs, ts⟩ => (match ts.toList, xs.toList.map (eev σ) with
    | [t], [x] => lenP t x H κ
    | _, _ => False)
  | .call ⟨.builtin .min, xs, _⟩ => (match xs.toList.map (eev σ) with
    | [x, y] => mmP false x y κ
    | _ => False)
  | .call ⟨.builtin .max, xs, _⟩ => (match xs.toList.map (eev σ) with
    | [x, y] => mmP true x y κ
    | _ => False)
  | o => optP (epure Try.prog o σ H) κ
noncomputable def dynOp (ops : Array Oper) (o : Oper) (b : DB) (cd : CP) (hist : List (AH × Nat)) (σ : AE) (H : AH) (n : Nat) (k : KP) : Prop :=
  let go : AE → Prop := fun σ => (match b.1 with
    | none => (match o.op with
      | .call c => callP c cd (filtq σ b.2) H n fun v H n => k (eput σ o.dst v) H n
      | _ => False)
    | some j => optP (nth ((H, n) :: hist) j) fun r => qP o.op (filtq σ b.2) r.1 fun v => k (eput σ o.dst v) H n)
  match o.guard with
  | none => go σ
  | some (j, want) => (match gslot ops j with
    | none => False
    | some t => (match getq (pa t) σ with
      | .bool q => (match q == want with
        | true => go σ
        | false => k (eput σ o.dst undefA) H n)
      | .sb q => (match want with
        | true => Fork q (go (eput σ (some t) (.bool true))) (k (eput (eput σ (some t) (.bool false)) o.dst undefA) H n)
        | false => Fork q (k (eput (eput σ (some t) (.bool true)) o.dst undefA) H n) (go (eput σ (some t) (.bool false))))
      | .tup _ => k (eput σ o.dst undefA) H n
      | _ => False))
noncomputable def dynL (ops : Array Oper) (l : List Oper) : List DB → CP → List (AH × Nat) → AE → AH → Nat → KP → Prop :=
  List.rec (fun _ _ _ σ H n k => k σ H n) (fun o _ ih bs cd hist σ H n k => List.rec False (fun b bs' _ => dynOp ops o b cd hist σ H n fun σ' H' n' => ih bs' cd ((H, n) :: hist) σ' H' n' k) bs) l
/-- What is ahead of each operation by the edges, as bits. -/
def maskOf (A : List Nat) (i : Nat) (o : Oper) : Nat := o.after.toList.foldl (fun m e => if Region.binds .any e && decide (e.on < i) then m ||| (2 ^ e.on ||| A.getD e.on 0) else m) 0
def ancsGo : List Oper → Nat → List Nat → List Nat
  | [], _, A => A
  | o :: l, i, A => ancsGo l (i + 1) (A ++ [maskOf A i o])
def ancOk (A : List Nat) (ops : Array Oper) : Bool := (List.range ops.size).all fun i => match ops[i]? with
  | some o => A.getD i 0 == maskOf A i o
  | none => true
def befA (A : List Nat) (j i : Nat) : Bool := (A.getD i 0).testBit j
def isCallV : Op → Bool
  | .call ⟨.value _, _, _⟩ => true
  | _ => false
def loudAt (ops : Array Oper) (j : Nat) : Bool := match ops[j]? with
  | some o => loudOp o.op
  | none => false
def gslotIn (ops : Array Oper) (o : Oper) (ts : List Nat) : Bool := match o.guard with
  | none => true
  | some (j, _) => (match gslot ops j with
    | some t => ts.contains t
    | none => true)
def opOk (A : List Nat) (ops : Array Oper) (bs : List DB) (i : Nat) : Bool := match ops[i]?, bs[i]? with
  | some o, some b => b.2.all (fun t => (looks ops o).contains t) && gslotIn ops o b.2 && (match b.1 with
      | none => isCallV o.op
      | some k => !loudOp o.op && (decide (k ≤ i) && (List.range (i - k)).all fun j => !loudAt ops j || befA A j i)) &&
    (List.range i).all fun j => (match ops[j]? with
      | some a => a.apart ops o && (!loudOp a.op || !loudOp o.op)
      | none => true) || befA A j i
  | _, _ => false
def dynOk (ops : Array Oper) (bs : List DB) : Bool := edgesOk ops && (ancOk (ancsGo ops.toList 0 []) ops && (List.range ops.size).all (opOk (ancsGo ops.toList 0 []) ops bs))
noncomputable def drawOk (D : DT) (c : Code) : Bool := Code.rec (motive := fun _ => Bool)
  true
  (fun id ops draw => Bool.rec true (Option.rec (swapB Try.prog ops) (fun bs => dynOk ops bs) (findD D id)) draw)
  (fun _ _ a b => Bool.rec false b a)
  (fun _ _ _ a b => Bool.rec false b a)
  (fun _ _ b => b)
  (fun _ b => b)
  (fun _ _ _ _ _ _ => true)
  (fun _ => true)
  (fun _ _ => true)
  (fun _ => true)
  (fun _ => true)
  true
  (fun _ => true) c
noncomputable def execP (p : Nat) (cd : CP) (D : DT) (c : Code) : XP := Code.rec (motive := fun _ => XP)
  (fun _ σ H n kn _ _ => kn σ H n)
  (fun id ops draw => Bool.rec (fun call σ H n kn _ _ => opsP ops ops.toList call σ H n kn) (Option.rec (fun call σ H n kn _ _ => opsP ops ops.toList call σ H n kn) (fun bs _ σ H n kn _ _ => dynL ops ops.toList bs cd [] σ H n kn) (findD D id)) draw)
  (fun _ _ a b call σ H n kn kx kr => a call σ H n (fun σ H n => b call σ H n kn kx kr) kx kr)
  (fun c _ _ a b call σ H n kn kx kr => condP c σ (fun σ => a call σ H n kn kx kr) (fun σ => b call σ H n kn kx kr))
  (fun id _ b call σ H n kn kx kr => b call σ H n kn (fun i σ H n => bifP (Nat.beq i id) (kn σ H n) (kx i σ H n)) kr)
  (fun _ b call σ H n _ kx kr => LoopP p (fun σ H n k => b call σ H n k kx kr) σ H n)
  (fun _ _ _ _ _ _ _ _ _ _ _ _ _ => False)
  (fun i _ σ H n _ kx _ => kx i σ H n)
  (fun _ _ _ _ _ _ _ _ _ => False)
  (fun _ _ _ _ _ _ _ _ => False)
  (fun _ _ _ _ _ _ _ _ => False)
  (fun _ σ H n _ _ kr => kr σ H n)
  (fun _ _ _ _ _ _ _ _ => False) c
noncomputable def resP (rs : List ResultVar) (σ : AE) (H : AH) (k : List AV → Prop) : Prop :=
  List.rec (fun k => k []) (fun r _ ih k => ResultVar.rec (fun t => ih fun vs => k (getq (pa t) σ :: vs)) (fun a t => loadP t (getq (pa a) σ) H fun v => ih fun vs => k (v :: vs)) r) rs k
/-- A function's run, its callees by a table. -/
noncomputable def runP (call cd : CP) (D : DT) (c : Code) (rs : List ResultVar) (m : Nat) (args : List AV) (H : AH) (n : Nat) (κ : PK) : Prop :=
  bifP (Nat.ble args.length m) (execP n cd D c call (eentry args 0 .nil) H n (fun σ H n => resP rs σ H fun vs => κ (epack vs) H n) (fun _ _ _ _ => False) (fun σ H n => resP rs σ H fun vs => κ (epack vs) H n)) False
inductive EP where
  | no
  | run (D : DT) (c : Code) (rs : List ResultVar) (m : Nat)
  | nat (g : List AV → AH → Nat → PK → Prop)
  | det (g : List AV → AH → Nat → PK → Prop)
/-- The functions of the table that may be called in a region that draws its order. -/
noncomputable def callD (F : FuncId → EP) : CP := fun f args H n κ => EP.rec (fun _ _ _ _ => False) (fun _ _ _ _ _ _ _ _ => False) (fun _ _ _ _ _ => False) (fun g => g) (F f) args H n κ
noncomputable def callT (F : FuncId → EP) (d : Nat) : CP := Nat.rec (fun _ _ _ _ _ => False) (fun _ ih f args H n κ => EP.rec (fun _ _ _ _ => False) (fun D c rs m => runP ih (callD F) D c rs m) (fun g => g) (fun g => g) (F f) args H n κ) d
noncomputable def bodyP (D : DT) (f : FuncId) : EP := match Try.prog.funcs[f]? with
  | some fn => (match fn.body with
    | some c => .run D c fn.results.toList fn.ntmps
    | none => .no)
  | none => .no
noncomputable def drawF (D : DT) (f : FuncId) : Bool := match Try.prog.funcs[f]? with
  | some fn => (match fn.body with
    | some c => drawOk D c
    | none => false)
  | none => false
noncomputable def evP (f : FuncId) : EP := Bool.rec .no (Bool.rec .no (bodyP [] f) (drawF [] f)) (fnOkq f)
end Go.Proofs.Ytaejmcgcfopmkaa
