/- A machine of our own: it runs a program's code on values without places; what it yields, each run of the code yields (the next texts). -/
import Derived.Test.YtaejmcgcfopmkaaEngEnt
namespace Go.Proofs.Ytaejmcgcfopmkaa
open Go Go.RowKit

/-! ### tries -/
inductive PM (α : Type) where
  | nil
  | node (l : PM α) (v : Option α) (r : PM α)
noncomputable def PM.get {α : Type} (t : PM α) : Nat → Option α :=
  PM.rec (fun _ => none) (fun _ v _ gl gr n => Nat.rec v (fun m _ => Nat.rec (gl (Nat.div m 2)) (fun _ _ => gr (Nat.div m 2)) (Nat.mod m 2)) n) t
noncomputable def PM.set {α : Type} (v : Option α) (f : Nat) : PM α → Nat → PM α :=
  Nat.rec (fun _ _ => .nil) (fun _ ih t n => PM.rec
    (Nat.rec (.node .nil v .nil) (fun m _ => Nat.rec (.node (ih .nil (Nat.div m 2)) none .nil) (fun _ _ => .node .nil none (ih .nil (Nat.div m 2))) (Nat.mod m 2)) n)
    (fun l u r _ _ => Nat.rec (.node l v r) (fun m _ => Nat.rec (.node (ih l (Nat.div m 2)) u r) (fun _ _ => .node l u (ih r (Nat.div m 2))) (Nat.mod m 2)) n) t) f

/-! ### values -/
inductive AV where
  | int (k : IntKind) (n : Int)
  | str (s : List Nat)
  | bool (b : Bool)
  | nil
  | ptr (b o : Nat)
  | nsl
  | sl (b o n c k : Nat)
  | esl (b : Nat)
  | agg (l : List AV)
  | tup (l : List AV)
  | fn (f : Nat) (a c : List AV)
  | map (b : Nat)
  | any (v : Value)
  | bad
  | si (k : IntKind) (n : Int)
  | sb (b : Bool)
  | ss (s : List Nat)
  | sy (b o n c k : Nat)
inductive AO where
  | cells (l : List AV) (z : Bool)
  | map (es : List (AV × AV))
  | ro (l : List AV)
abbrev AE := PM AV
abbrev AH := PM AO
def undefA : AV := .tup []
noncomputable def ofV1 : Value → AV
  | .int k n => .int k n
  | .string s => .str (s.data.toList.map UInt8.toNat)
  | .bool b => .bool b
  | .pointer none => .nil
  | .slice none 0 0 => .nsl
  | v => .any v
noncomputable def ofV : Value → AV
  | .agg cs => .agg (cs.toList.map ofV1)
  | .tuple cs => .tup (cs.toList.map ofV1)
  | v => ofV1 v
noncomputable def AV.cells : AV → List AV
  | .agg l => l
  | v => [v]
noncomputable def one1 : AV → Bool
  | .agg _ | .tup _ => false
  | .any v => v.oneCell'
  | .bad => false
  | _ => true
/-- May it be laid into cells? -/
noncomputable def okC : AV → Bool
  | .bad => false
  | .any u => u.oneCell'
  | _ => true
noncomputable def depthE : Nat := 30
noncomputable def depthH : Nat := 40
/-! ### slots by their ways through the trie -/
inductive Pa where
  | stop
  | here
  | lo (p : Pa)
  | hi (p : Pa)
noncomputable def pathOf (f : Nat) : Nat → Pa :=
  Nat.rec (fun _ => .stop) (fun _ ih n => Nat.rec .here (fun m _ => Nat.rec (.lo (ih (Nat.div m 2))) (fun _ _ => .hi (ih (Nat.div m 2))) (Nat.mod m 2)) n) f
noncomputable def pa (t : Nat) : Pa := pathOf depthE t
noncomputable def getO (v : Option AV) : AV := Option.rec .bad (fun a => a) v
noncomputable def getq (p : Pa) : AE → AV :=
  Pa.rec (fun _ => .bad) (fun t => PM.rec .bad (fun _ v _ _ _ => getO v) t) (fun _ ih t => PM.rec .bad (fun l _ _ _ _ => ih l) t) (fun _ ih t => PM.rec .bad (fun _ _ r _ _ => ih r) t) p
noncomputable def setq (v : AV) (p : Pa) : AE → AE :=
  Pa.rec (fun _ => .nil) (fun t => PM.rec (.node .nil (some v) .nil) (fun l _ r _ _ => .node l (some v) r) t)
    (fun _ ih t => PM.rec (.node (ih .nil) none .nil) (fun l u r _ _ => .node (ih l) u r) t) (fun _ ih t => PM.rec (.node .nil none (ih .nil)) (fun l u r _ _ => .node l u (ih r)) t) p
noncomputable def putq (d : Option Nat) (v : AV) (σ : AE) : AE := Option.rec σ (fun t => setq v (pa t) σ) d
noncomputable def eev (σ : AE) : Operand → AV
  | .tmp t => getq (pa t) σ
  | .const v => ofV v
  | .func f => .fn f [] []
  | .global g => .any (.pointer (some ⟨g, 0, none⟩))
noncomputable def eput (σ : AE) (d : Option Nat) (v : AV) : AE := putq d v σ
noncomputable def nth {α : Type} : List α → Nat → Option α
  | [], _ => none
  | x :: _, 0 => some x
  | _ :: l, n + 1 => nth l n
noncomputable def beqL : List Nat → List Nat → Bool
  | [], [] => true
  | a :: x, b :: y => (match Nat.beq a b with
    | true => beqL x y
    | false => false)
  | _, _ => false
noncomputable def ltL : List Nat → List Nat → Bool
  | _, [] => false
  | [], _ :: _ => true
  | a :: x, b :: y => (match Nat.beq a b with
    | true => ltL x y
    | false => Nat.blt a b)
/-- The cells from o on, n of them. -/
noncomputable def subL {α : Type} (l : List α) (o n : Nat) : Option (List α) := (match Nat.ble (o + n) l.length with
  | true => some ((l.drop o).take n)
  | false => none)
noncomputable def setL {α : Type} : List α → Nat → List α → Option (List α)
  | l, 0, [] => some l
  | [], 0, _ :: _ => none
  | [], _ + 1, _ => none
  | _ :: l, 0, x :: xs => (setL l 0 xs).map (x :: ·)
  | y :: l, o + 1, xs => (setL l o xs).map (y :: ·)

/-! ### operations that look at most -/
noncomputable def eload (P : Program) (t : TypeId) (a : AV) (H : AH) : Option AV := match a with
  | .ptr b o => (match H.get b with
    | some (.cells l _) => (match tyAgg P t with
      | some false => nth l o
      | some true => (match tySize P t with
        | some n => (subL l o n).map .agg
        | none => none)
      | none => none)
    | some (.ro l) => (match tyAgg P t with
      | some false => nth l o
      | some true => (match tySize P t with
        | some n => (subL l o n).map .agg
        | none => none)
      | none => none)
    | _ => none)
  | _ => none
noncomputable def eint (op : BinOp) (k k' : IntKind) (a b : Int) : Option AV := match op with
  | .shl => if 0 ≤ b then some (.int k (k.wrap (a * 2 ^ min b.toNat k.bits))) else none
  | .shr => if 0 ≤ b then some (.int k (a.fdiv (2 ^ min b.toNat k.bits))) else none
  | op => if k = k' then (match op with
    | .add => some (.int k (k.wrap (a + b)))
    | .sub => some (.int k (k.wrap (a - b)))
    | .mul => some (.int k (k.wrap (a * b)))
    | .quo => if b = 0 then none else some (.int k (k.wrap (a.tdiv b)))
    | .rem => if b = 0 then none else some (.int k (a.tmod b))
    | .and => some (.int k (bitsV .and k a b))
    | .or => some (.int k (bitsV .or k a b))
    | .xor => some (.int k (bitsV .xor k a b))
    | .andNot => some (.int k (bitsV .andNot k a b))
    | .eql => some (.bool (decide (a = b)))
    | .neq => some (.bool (!decide (a = b)))
    | .lss => some (.bool (decide (a < b)))
    | .leq => some (.bool (decide (a ≤ b)))
    | .gtr => some (.bool (decide (b < a)))
    | .geq => some (.bool (decide (b ≤ a)))
    | _ => none) else none
noncomputable def estr (op : BinOp) (a b : List Nat) : Option AV := match op with
  | .add => if a.length + b.length ≤ 9223372036854775807 then some (.str (a ++ b)) else none
  | .eql => some (.bool (beqL a b))
  | .neq => some (.bool (!beqL a b))
  | .lss => some (.bool (ltL a b))
  | .leq => some (.bool (ltL a b || beqL a b))
  | .gtr => some (.bool (!(ltL a b || beqL a b)))
  | .geq => some (.bool (!ltL a b))
  | _ => none
noncomputable def eisnil : AV → Option Bool
  | .nil => some true
  | .ptr _ _ => some false
  | _ => none
noncomputable def eisnsl : AV → Option Bool
  | .nsl => some true
  | .sl .. => some false
  | .esl _ => some false
  | _ => none
noncomputable def qbool (op : BinOp) (q : Option Bool) : Option AV := match q with
  | none => none
  | some q => (match op with
    | .eql => some (.bool q)
    | .neq => some (.bool (!q))
    | _ => none)
noncomputable def eplan (xs ys : List AV) : List (Nat × Nat) → Option Bool
  | [] => some true
  | (k, o) :: l => (match nth xs o, nth ys o with
    | some (.int k1 a), some (.int k2 b) => if k = 0 ∧ k1 = k2 then (eplan xs ys l).map (decide (a = b) && ·) else none
    | some (.str a), some (.str b) => if k = 1 then (eplan xs ys l).map (beqL a b && ·) else none
    | some (.bool a), some (.bool b) => if k = 2 then (eplan xs ys l).map ((a == b) && ·) else none
    | _, _ => none)
noncomputable def isPtrT (P : Program) (t : TypeId) : Bool := match P.underlying t with
  | some (.pointer _) => true
  | _ => false
noncomputable def isSlT (P : Program) (t : TypeId) : Bool := match P.underlying t with
  | some (.slice _) => true
  | _ => false
noncomputable def isBoolT (P : Program) (t : TypeId) : Bool := match P.underlying t with
  | some .bool => true
  | _ => false
/-- Is there a block of cells that may all be written? -/
noncomputable def eplain (H : AH) (b : Nat) : Bool := match H.get b with
  | some (.cells _ true) => true
  | _ => false
noncomputable def eptr (P : Program) (t : TypeId) (H : AH) (b o b' o' : Nat) : Option Bool := match P.underlying t with
  | some (.pointer e) => (match tySize P e with
    | some (_ + 1) => (match Nat.beq b b' && Nat.beq o o' with
      | true => some true
      | false => if eplain H b && eplain H b' then some false else none)
    | _ => none)
  | _ => none
noncomputable def ebin (P : Program) (op : BinOp) (t : TypeId) (x y : AV) (H : AH) : Option AV := match x, y with
  | .int k a, .int k' b => eint op k k' a b
  | .str a, .str b => estr op a b
  | .bool a, .bool b => if isBoolT P t then qbool op (some (a == b)) else none
  | .ptr b o, .ptr b' o' => qbool op (eptr P t H b o b' o')
  | x, .nil => if isPtrT P t then qbool op (eisnil x) else none
  | x, .nsl => if isSlT P t then qbool op (eisnsl x) else none
  | .agg xs, .agg ys => qbool op ((eqPlan P t).bind (eplan xs ys))
  | _, _ => none
noncomputable def eun (op : UnOp) (x : AV) : Option AV := match op, x with
  | .not, .bool b => some (.bool (!b))
  | .neg, .int k n => some (.int k (k.wrap (0 - n)))
  | .xor, .int k n => some (.int k (bitsV .xor k (if k.signed then -1 else k.max) n))
  | _, _ => none
noncomputable def epart (P : Program) (t : TypeId) (l : List AV) (off : Nat) : Option AV := match tyAgg P t with
  | some false => nth l off
  | some true => (match tySize P t with
    | some n => (subL l off n).map .agg
    | none => none)
  | none => none
noncomputable def efield (P : Program) (s : TypeId) (x : AV) (i : Nat) : Option AV := match x, tyField P s i with
  | .agg l, some (t, off) => epart P t l off
  | _, _ => none
noncomputable def efieldAddr (P : Program) (s : TypeId) (x : AV) (i : Nat) : Option AV := match x, tyField P s i with
  | .ptr b o, some (_, off) => some (.ptr b (o + off))
  | _, _ => none
/-- An index, if it is one. -/
noncomputable def eix (ix : AV) (len : Nat) : Option Nat := match ix with
  | .int _ (.ofNat i) => (match Nat.blt i len with
    | true => some i
    | false => none)
  | _ => none
noncomputable def eindexAddr (P : Program) (t : TypeId) (x ix : AV) : Option AV := match P.underlying t, x with
  | some (.slice e), .sl b o n _ _ => (match eix ix n, tySize P e with
    | some i, some k => some (.ptr b (o + i * k))
    | _, _ => none)
  | some (.array len e), .ptr b o => (match eix ix len, tySize P e with
    | some i, some k => some (.ptr b (o + i * k))
    | _, _ => none)
  | _, _ => none
noncomputable def eindex (P : Program) (t : TypeId) (x ix : AV) : Option AV := match P.underlying t, x with
  | some (.array len e), .agg l => (match eix ix len, tySize P e with
    | some i, some k => epart P e l (i * k)
    | _, _ => none)
  | some .string, .str s => (match eix ix s.length with
    | some i => (nth s i).map fun c => .int .u8 (Int.ofNat c)
    | none => none)
  | _, _ => none
noncomputable def eextract (x : AV) (i : Nat) : Option AV := match x with
  | .tup l => nth l i
  | _ => none
/-- A bound, or what stands for none. -/
noncomputable def ebnd (x : Option AV) (d : Nat) : Option Nat := match x with
  | none => some d
  | some (.int _ (.ofNat i)) => some i
  | _ => none
noncomputable def eslice (P : Program) (t : TypeId) (x : AV) (lo hi mx : Option AV) : Option AV := match x with
  | .str s => (match P.underlying t, mx, ebnd lo 0, ebnd hi s.length with
    | some .string, none, some l, some h => if l ≤ h ∧ h ≤ s.length then some (.str ((s.drop l).take (h - l))) else none
    | _, _, _, _ => none)
  | .nsl => (match P.underlying t, ebnd lo 0, ebnd hi 0, ebnd mx 0 with
    | some (.slice e), some l, some h, some m => if l = 0 ∧ h = 0 ∧ m = 0 ∧ (mx.isSome = true → hi.isSome = true) ∧ (tySize P e).isSome = true then some .nsl else none
    | _, _, _, _ => none)
  | .esl b => (match P.underlying t, mx, ebnd lo 0, ebnd hi 0 with
    | some (.slice e), none, some l, some h => if l = 0 ∧ h = 0 ∧ (tySize P e).isSome = true then some (.esl b) else none
    | _, _, _, _ => none)
  | .sl b o n c k => (match P.underlying t with
    | some (.slice e) => (match tySize P e, ebnd lo 0, ebnd hi n, ebnd mx c with
      | some es, some l, some h, some m => if l ≤ h ∧ h ≤ m ∧ m ≤ c then
          (match k, mx with
          | 0, none => some (.sl b (if m = l then o else o + l * es) (h - l) (m - l) 0)
          | 0, some _ => if hi.isSome = true then some (.sl b (if m = l then o else o + l * es) (h - l) (m - l) 0) else none
          | k' + 1, none => if es = k' + 1 then (if l = 0 ∨ l < c then some (.sl b (o + l * es) (h - l) (c - l) (k' + 1)) else some (.esl b)) else none
          | _ + 1, some _ => if hi.isSome = true then some (.sl b (if m = l then o else o + l * es) (h - l) (m - l) 0) else none)
        else none
      | _, _, _, _ => none)
    | _ => none)
  | _ => none
noncomputable def elen (P : Program) (t : TypeId) (x : AV) (H : AH) : Option AV := match P.underlying t, x with
  | some .string, .str s => some (.int .i64 s.length)
  | some (.slice _), .nsl => some (.int .i64 0)
  | some (.slice _), .esl _ => some (.int .i64 0)
  | some (.slice _), .sl _ _ n _ _ => some (.int .i64 n)
  | some (.array n _), _ => some (.int .i64 n)
  | some (.map _ _), .map b => (match H.get b with
    | some (.map es) => some (.int .i64 es.length)
    | _ => none)
  | _, _ => none
noncomputable def emm (mx : Bool) (x y : AV) : Option AV := match x, y with
  | .int k a, .int _ b => some (.int k (if mx then max a b else min a b))
  | _, _ => none
noncomputable def efill (place : Nat → Option (Nat × Nat)) (cells : List AV) : List (Nat × AV) → Option (List AV)
  | [] => some cells
  | (i, v) :: rest => (match place i with
    | none => none
    | some (off, size) => (match Nat.beq v.cells.length size && (okC v && Nat.ble (off + size) cells.length), setL cells off v.cells with
      | true, some c => efill place c rest
      | _, _ => none))
noncomputable def ebuild (P : Program) (t : TypeId) (parts : List (Nat × AV)) : Option (List AV) :=
  match tyZero P t with
  | some z => (match P.underlying t with
    | some (.struct fs) => if (fs.toList.all fun f => (tySize P f.type).isSome) = true then efill (structPlaces P fs) (ofV z).cells parts else none
    | some (.array _ e) => (match tySize P e with
      | some s => efill (fun i => some (i * s, s)) (ofV z).cells parts
      | none => none)
    | _ => none)
  | none => none
noncomputable def esame (kd : TypeDesc) (a b : AV) : Option Bool := match kd, a, b with
  | .int _, .int k n, .int k' m => if k = k' then some (decide (n = m)) else none
  | .string, .str s, .str r => some (beqL s r)
  | _, _, _ => none
noncomputable def efind (kd : TypeDesc) (k : AV) : List (AV × AV) → Nat → Option (Option (Nat × AV))
  | [], _ => some none
  | e :: es, i => (match esame kd k e.1 with
    | some true => some (some (i, e.2))
    | some false => efind kd k es (i + 1)
    | none => none)
noncomputable def elookup (P : Program) (t : TypeId) (m k : AV) (ok : Bool) (H : AH) : Option AV := match m, mapKind P t with
  | .map b, some (_, kd, et) => (match H.get b with
    | some (.map es) => (match efind kd k es 0 with
      | some (some (_, v)) => some (if ok then .tup [v, .bool true] else v)
      | some none => (match tyZero P et with
        | some z => some (if ok then .tup [ofV z, .bool false] else ofV z)
        | none => none)
      | none => none)
    | _ => none)
  | _, _ => none
noncomputable def epure (P : Program) (o : Op) (σ : AE) (H : AH) : Option AV :=
  match o with
  | .move x => some (eev σ x)
  | .assign x => some (eev σ x)
  | .pick c a b => (match eev σ c with
    | .bool true => some (eev σ a)
    | .bool false => some (eev σ b)
    | _ => none)
  | .build t parts => (ebuild P t (parts.toList.map fun x => (x.1, eev σ x.2))).map .agg
  | .load t a => eload P t (eev σ a) H
  | .nilCheck x => (match eev σ x with
    | .ptr b o => some (.ptr b o)
    | .fn f a c => some (.fn f a c)
    | _ => none)
  | .binOp op t x y _ => ebin P op t (eev σ x) (eev σ y) H
  | .unOp op _ x => eun op (eev σ x)
  | .makeFunc (.func f) first captured => some (.fn f (first.toList.map (eev σ)) (captured.toList.map (eev σ)))
  | .slice t x lo hi mx => eslice P t (eev σ x) (lo.map (eev σ)) (hi.map (eev σ)) (mx.map (eev σ))
  | .fieldAddr s x i => efieldAddr P s (eev σ x) i
  | .field t x i => efield P t (eev σ x) i
  | .indexAddr t x ix => eindexAddr P t (eev σ x) (eev σ ix)
  | .index t x ix => eindex P t (eev σ x) (eev σ ix)
  | .extract x i => eextract (eev σ x) i
  | .lookup t m k ok => elookup P t (eev σ m) (eev σ k) ok H
  | .call c => (match c.callee, c.argTypes.toList, c.args.toList.map (eev σ) with
    | .builtin .len, [t], [x] => elen P t x H
    | .builtin .min, _, [x, y] => emm false x y
    | .builtin .max, _, [x, y] => emm true x y
    | _, _, _ => none)
  | _ => none

/-! ### operations that do -/
abbrev AR := Option (AV × AH × Nat)
noncomputable def enew (l : List AV) (H : AH) (n : Nat) : AR := some (.ptr n 0, H.set (some (.cells l true)) depthH n, n + 1)
noncomputable def estore (P : Program) (t : TypeId) (a v : AV) (H : AH) (n : Nat) : AR := match a with
  | .ptr b o => (match H.get b, tySize P t with
    | some (.cells l z), some s => (match Nat.beq v.cells.length s && (okC v && v.cells.all one1), setL l o v.cells with
      | true, some l' => some (undefA, H.set (some (.cells l' z)) depthH b, n)
      | _, _ => none)
    | _, _ => none)
  | _ => none
noncomputable def repL (z : List AV) : Nat → List AV
  | 0 => []
  | n + 1 => z ++ repL z n
noncomputable def ebytes : List AV → Option (List Nat)
  | [] => some []
  | .int .u8 (.ofNat n) :: l => (match Nat.blt n 256 with
    | true => (ebytes l).map (n :: ·)
    | false => none)
  | .si .u8 (.ofNat n) :: l => (match Nat.blt n 256 with
    | true => (ebytes l).map (n :: ·)
    | false => none)
  | _ => none
noncomputable def econv (P : Program) (src dst : TypeId) (x : AV) (H : AH) (n : Nat) : AR := match P.underlying src, P.underlying dst, x with
  | some (.int _), some (.int k), .int _ a => some (.int k (k.wrap a), H, n)
  | some .string, some .string, .str s => some (.str s, H, n)
  | some .string, some (.slice e), .str s => (match P.underlying e with
    | some (.int .u8) => some (.sl n 0 s.length s.length 1, H.set (some (.cells (s.map fun c => .int .u8 (Int.ofNat c)) false)) depthH n, n + 1)
    | _ => none)
  | some (.slice e), some .string, .nsl => (match P.underlying e with
    | some (.int .u8) => some (.str [], H, n)
    | _ => none)
  | some (.slice e), some .string, .sl b o len _ _ => (match P.underlying e, H.get b with
    | some (.int .u8), some (.cells l _) => ((subL l o len).bind ebytes).map fun s => (.str s, H, n)
    | _, _ => none)
  | _, _, _ => none
noncomputable def emake (P : Program) (t : TypeId) (len cap : AV) (H : AH) (n : Nat) : AR := match P.underlying t, len, cap with
  | some (.slice e), .int _ (.ofNat l), .int _ (.ofNat c) => (match tySize P e, tyBytes P e, tyZero P e with
    | some k, some by', some z => if l ≤ c ∧ by' * c ≤ 281474976710656 ∧ c ≤ 9223372036854775807 ∧ z.cells.size = k then
        some (.sl n 0 l c 0, H.set (some (.cells (repL (ofV z).cells c) true)) depthH n, n + 1) else none
    | _, _, _ => none)
  | _, _, _ => none
/-- What a slice or a text holds: how many, and the cells. -/
noncomputable def esrc (H : AH) (k : Nat) (x : AV) : Option (Nat × List AV) := match x with
  | .nsl => some (0, [])
  | .sl b o n _ _ => (match H.get b with
    | some (.cells l _) => (subL l o (n * k)).map (n, ·)
    | _ => none)
  | .esl b => (match H.get b with
    | some (.cells _ _) => some (0, [])
    | _ => none)
  | .str s => some (s.length, s.map fun c => .int .u8 (Int.ofNat c))
  | _ => none
noncomputable def eappend (P : Program) (t u : TypeId) (s x : AV) (H : AH) (n : Nat) : AR := match P.underlying t, P.underlying u with
  | some (.slice e), some ud => (match ud, tySize P e, tyBytes P e, tyZero P e with
    | .int _, _, _, _ => none
    | _, some k, some by', some z => (match esrc H k x with
      | some (m, new) => if z.cells.size = k ∧ 0 < by' ∧ 0 < k ∧ new.length = m * k ∧ new.all one1 = true then (match s with
        | .nsl => (match m with
          | 0 => some (.nsl, H, n)
          | _ => if m * by' ≤ 140737488355328 then some (.sl n 0 m m k, H.set (some (.cells new true)) depthH n, n + 1) else none)
        | .sl b o sn c sk => (match H.get b with
          | some (.cells l z') => if sn + m ≤ c then (match setL l (o + sn * k) new with
              | some l' => some (.sl b o (sn + m) c sk, H.set (some (.cells l' z')) depthH b, n)
              | none => none)
            else if (sn + m) * by' ≤ 140737488355328 then (match subL l o (sn * k), sk with
              | some old, 0 => some (.sl n 0 (sn + m) (sn + m) k, H.set (some (.cells (old ++ new) true)) depthH n, n + 1)
              | some old, _ + 1 => if sk = k then some (.sl n 0 (sn + m) (sn + m) k, (H.set none depthH b).set (some (.cells (old ++ new) z')) depthH n, n + 1) else none
              | none, _ => none)
            else none
          | _ => none)
        | _ => none) else none
      | none => none)
    | _, _, _, _ => none)
  | _, _ => none
noncomputable def elenV : AV → Option Nat
  | .nsl => some 0
  | .sl _ _ n _ _ => some n
  | .esl _ => some 0
  | .str s => some s.length
  | _ => none
noncomputable def efirst (H : AH) (k q : Nat) (x : AV) : Option (List AV) := match x with
  | .nsl => some []
  | .sl b o _ _ _ => (match H.get b with
    | some (.cells l _) => subL l o (q * k)
    | some (.ro l) => subL l o (q * k)
    | _ => none)
  | .esl b => (match H.get b, q with
    | some (.cells _ _), 0 => some []
    | some (.ro _), 0 => some []
    | _, _ => none)
  | .str s => some ((s.take q).map fun c => .int .u8 (Int.ofNat c))
  | _ => none
noncomputable def ecopy (P : Program) (t : TypeId) (d x : AV) (H : AH) (n : Nat) : AR := match P.underlying t, elenV x, elenV d with
  | some (.slice e), some m, some dn => (match tySize P e with
    | some k => (match efirst H k (min m dn) x with
      | some cells => (match d with
        | .nsl => some (.int .i64 (min m dn : Nat), H, n)
        | .esl b => (match H.get b, cells with
          | some (.cells l z), [] => some (.int .i64 (min m dn : Nat), H.set (some (.cells l z)) depthH b, n)
          | _, _ => none)
        | .sl b o _ _ _ => (match H.get b with
          | some (.cells l z) => (match setL l o cells, cells.all one1 with
            | some l', true => some (.int .i64 (min m dn : Nat), H.set (some (.cells l' z)) depthH b, n)
            | _, _ => none)
          | _ => none)
        | _ => none)
      | none => none)
    | none => none)
  | _, _, _ => none
noncomputable def eplaces (P : Program) (t : TypeId) (len : Nat) (parts : List (Nat × AV)) : Option (List AV) := match P.underlying t with
  | some (.slice e) => (match tySize P e, tyZero P e with
    | some s, some z => if len * s ≤ 16777216 ∧ z.cells.size = s then efill (fun i => some (i * s, s)) (repL (ofV z).cells len) parts else none
    | _, _ => none)
  | _ => none
noncomputable def eputE (k v : AV) : List (AV × AV) → Option (Nat × AV) → List (AV × AV)
  | es, none => es ++ [(k, v)]
  | [], some _ => []
  | _ :: es, some (0, _) => (k, v) :: es
  | e :: es, some (i + 1, u) => e :: eputE k v es (some (i, u))
noncomputable def emapUpd (P : Program) (t : TypeId) (m k v : AV) (H : AH) (n : Nat) : AR := match m, mapKind P t with
  | .map b, some (_, kd, _) => (match H.get b with
    | some (.map es) => (match efind kd k es 0 with
      | some r => some (undefA, H.set (some (.map (eputE k v es r))) depthH b, n)
      | none => none)
    | _ => none)
  | _, _ => none
abbrev AC := FuncId → List AV → AH → Nat → AR
noncomputable def estep (P : Program) (call : AC) (o : Op) (σ : AE) (H : AH) (n : Nat) : AR :=
  match o with
  | .alloc e => (match tyZero P e with
    | some z => enew (ofV z).cells H n
    | none => none)
  | .box _ x => (match okC (eev σ x) with
    | true => enew (eev σ x).cells H n
    | false => none)
  | .buildSlice t len parts => (match eplaces P t len (parts.toList.map fun x => (x.1, eev σ x.2)) with
    | some l => some (.sl n 0 len len 0, H.set (some (.cells l true)) depthH n, n + 1)
    | none => none)
  | .store t a x => estore P t (eev σ a) (eev σ x) H n
  | .convert src dst x => econv P src dst (eev σ x) H n
  | .makeSlice t l c => emake P t (eev σ l) (eev σ c) H n
  | .makeMap _ none => some (.map n, H.set (some (.map [])) depthH n, n + 1)
  | .mapUpdate t m k x => emapUpd P t (eev σ m) (eev σ k) (eev σ x) H n
  | .insert t m k x => emapUpd P t (eev σ m) (eev σ k) (eev σ x) H n
  | .call c => (match c.callee with
    | .value f => (match eev σ f with
      | .fn g a cs => call g (a ++ c.args.toList.map (eev σ) ++ cs) H n
      | _ => none)
    | .builtin .append => (match c.argTypes.toList, c.args.toList.map (eev σ) with
      | [t, u], [s, x] => eappend P t u s x H n
      | _, _ => none)
    | .builtin .copy => (match c.argTypes.toList, c.args.toList.map (eev σ) with
      | [t, _], [s, x] => ecopy P t s x H n
      | _, _ => none)
    | _ => (match epure P (.call c) σ H with
      | some v => some (v, H, n)
      | none => none))
  | o => (match epure P o σ H with
    | some v => some (v, H, n)
    | none => none)

/-! ### code -/
inductive EX where
  | norm
  | ret
  | exit (i : Nat)
abbrev AS := Option (EX × AE × AH × Nat)
noncomputable def eop (P : Program) (call : AC) (ops : Array Oper) (o : Oper) (k : AE → AH → Nat → AS) (σ : AE) (H : AH) (n : Nat) : AS :=
  match o.guard with
    | none => (match estep P call o.op σ H n with
      | some (v, H', n') => k (eput σ o.dst v) H' n'
      | none => none)
    | some (j, want) => (match gslot ops j with
      | none => none
      | some t => (match getq (pa t) σ with
        | .bool q => (match q == want with
          | true => (match estep P call o.op σ H n with
            | some (v, H', n') => k (eput σ o.dst v) H' n'
            | none => none)
          | false => k (eput σ o.dst undefA) H n)
        | .tup _ => k (eput σ o.dst undefA) H n
        | _ => none))
noncomputable def eops (P : Program) (call : AC) (ops : Array Oper) (l : List Oper) : AE → AH → Nat → AS :=
  List.rec (fun σ H n => some (.norm, σ, H, n)) (fun o _ ih => eop P call ops o ih) l
/-! ### a region that draws its order: done in the text's order, and looked at whether any other order is the same -/
structure TE where
  v : AV
  did : Bool
  σ : AE
  H : AH
  n : Nat
noncomputable def filt (σ : AE) : List Nat → AE
  | [] => .nil
  | t :: ts => (match σ.get t with
    | some a => (filt σ ts).set (some a) depthE t
    | none => filt σ ts)
noncomputable def edo (P : Program) (call : AC) (ops : Array Oper) (o : Oper) (σ : AE) (H : AH) (n : Nat) : Option (AV × Bool × AH × Nat) :=
  match o.guard with
  | none => (estep P call o.op σ H n).map fun r => (r.1, true, r.2)
  | some (j, want) => (match gslot ops j with
    | none => none
    | some t => (match getq (pa t) σ with
      | .bool q => (match q == want with
        | true => (estep P call o.op σ H n).map fun r => (r.1, true, r.2)
        | false => some (undefA, false, H, n))
      | .tup _ => some (undefA, false, H, n)
      | _ => none))
noncomputable def etr (P : Program) (call : AC) (ops : Array Oper) : List Oper → AE → AH → Nat → Option (List TE × AE × AH × Nat)
  | [], σ, H, n => some ([], σ, H, n)
  | o :: l, σ, H, n => (match edo P call ops o (filt σ (looks ops o)) H n with
    | some (v, did, H', n') => (etr P call ops l (eput σ o.dst v) H' n').map fun r => (⟨v, did, filt σ (looks ops o), H, n⟩ :: r.1, r.2)
    | none => none)
noncomputable def eqV : AV → AV → Bool
  | .int k a, .int j b => decide (k = j) && decide (a = b)
  | .str s, .str r => beqL s r
  | .bool a, .bool b => a == b
  | .nil, .nil => true
  | .ptr b o, .ptr b' o' => decide (b = b') && decide (o = o')
  | .nsl, .nsl => true
  | .sl b o n c k, .sl b' o' n' c' k' => decide (b = b') && (decide (o = o') && (decide (n = n') && (decide (c = c') && decide (k = k'))))
  | .esl b, .esl b' => decide (b = b')
  | .map b, .map b' => decide (b = b')
  | _, _ => false
noncomputable def eqVs : List AV → List AV → Bool
  | [], [] => true
  | a :: l, b :: m => eqV a b && eqVs l m
  | _, _ => false
noncomputable def eqVV : AV → AV → Bool
  | .agg l, .agg m => eqVs l m
  | a, b => eqV a b
/-- The operations come in one order, or do not touch one another's slots, and one of them is no deed. -/
def dynStatic (ops : Array Oper) : Bool := edgesOk ops && (List.range ops.size).all fun i => (List.range i).all fun j => (match ops[j]?, ops[i]? with
  | some a, some b => a.apart ops b && (stillOp a.op || stillOp b.op)
  | _, _ => true) || befB ops 4 j i
noncomputable def sameAt (P : Program) (o : Oper) (e : TE) (H : AH) : Bool := match epure P o.op e.σ H with
  | some v => eqVV v e.v
  | none => false
noncomputable def dynPair (P : Program) (ops : Array Oper) (tr : List TE) (Hend : AH) (i j : Nat) : Bool := match ops[i]?, ops[j]?, tr[i]?, tr[j]? with
  | some a, some b, some e, some f => if loudOp b.op = true ∧ stillOp a.op = true ∧ calmOp P a.op = false ∧ e.did = true then
      (if i < j then befB ops 4 i j || sameAt P a e (match tr[j + 1]? with
        | some g => g.H
        | none => Hend)
      else befB ops 4 j i || sameAt P a e f.H) else true
  | _, _, _, _ => true
noncomputable def dynCheck (P : Program) (ops : Array Oper) (tr : List TE) (Hend : AH) : Bool := (List.range ops.size).all fun i => (List.range ops.size).all fun j => dynPair P ops tr Hend i j
noncomputable def edyn (P : Program) (call : AC) (ops : Array Oper) (σ : AE) (H : AH) (n : Nat) : AS := match etr P call ops ops.toList σ H n with
  | some (tr, σ', H', n') => (match dynStatic ops && dynCheck P ops tr H' with
    | true => some (.norm, σ', H', n')
    | false => none)
  | none => none
noncomputable def execB (P : Program) (call : AC) (ih : Code → AE → AH → Nat → AS) (c : Code) (σ : AE) (H : AH) (n : Nat) : AS := match c with
    | .skip => some (.norm, σ, H, n)
    | .region _ ops draw => (match draw && !swapB P ops with
      | false => eops P call ops ops.toList σ H n
      | true => edyn P call ops σ H n)
    | .seq a b => (match ih a σ H n with
      | some (.norm, σ', H', n') => ih b σ' H' n'
      | r => r)
    | .cond c a b => (match eev σ c with
      | .bool true => ih a σ H n
      | .bool false => ih b σ H n
      | _ => none)
    | .block id b => (match ih b σ H n with
      | some (.exit i, σ', H', n') => (match Nat.beq i id with
        | true => some (.norm, σ', H', n')
        | false => some (.exit i, σ', H', n'))
      | r => r)
    | .loop b => (match ih b σ H n with
      | some (.norm, σ', H', n') => ih (.loop b) σ' H' n'
      | r => r)
    | .exit i => some (.exit i, σ, H, n)
    | .ret => some (.ret, σ, H, n)
    | _ => none
noncomputable def exec (P : Program) (call : AC) (f : Nat) : Code → AE → AH → Nat → AS :=
  Nat.rec (fun _ _ _ _ => none) (fun _ ih => execB P call ih) f
noncomputable def eres (P : Program) (σ : AE) (H : AH) : List ResultVar → Option (List AV)
  | [] => some []
  | .tmp t :: rs => (eres P σ H rs).map (eev σ (.tmp t) :: ·)
  | .cell a t :: rs => (match eload P t (eev σ (.tmp a)) H with
    | some v => (eres P σ H rs).map (v :: ·)
    | none => none)
noncomputable def epack : List AV → AV
  | [v] => v
  | l => .tup l
noncomputable def eentry : List AV → Nat → AE → AE
  | [], _, σ => σ
  | v :: l, k, σ => eentry l (k + 1) (σ.set (some v) depthE k)
noncomputable def fuelE : Nat := 1000000
/-- What a function of the table does: its code is run, or it is known by a contract. -/
inductive EF where
  | no
  | run
  | nat (g : List AV → AH → Nat → AR)
noncomputable def ecallB (P : Program) (F : FuncId → EF) (ih : AC) (f : FuncId) (args : List AV) (H : AH) (n : Nat) : AR := match F f with
  | .no => none
  | .nat g => g args H n
  | .run => (match P.funcs[f]? with
    | some fn => (match fn.body, Nat.ble args.length fn.ntmps with
      | some c, true => (match exec P ih fuelE c (eentry args 0 .nil) H n with
        | some (.exit _, _, _, _) => none
        | some (_, σ, H', n') => (match eres P σ H' fn.results.toList with
          | some vs => some (epack vs, H', n')
          | none => none)
        | none => none)
      | _, _ => none)
    | none => none)
noncomputable def ecall (P : Program) (F : FuncId → EF) (d : Nat) : AC :=
  Nat.rec (fun _ _ _ _ => none) (fun _ ih => ecallB P F ih) d
noncomputable def isTrue : AR → Bool
  | some (.bool true, _, _) => true
  | _ => false
end Go.Proofs.Ytaejmcgcfopmkaa
