/- The engine: code and operations as equations; all of them are handed to the walk's set of rules. -/
import Derived.Test.YtaejmcgcfopmkaaEngEq
namespace Go.Proofs.Ytaejmcgcfopmkaa
open Go Go.RowKit
section
variable (P : Program) (ops : Array Oper) (l : List Oper) (ρ : Env) (h : Hp) (N R : EH) (X : Nat → EH) (K : KH) (C : Value → Prop) (d : Option Nat) (op : Op) (ty : TypeId) (pos : String) (af : Array Edge)
/-- A branch, both ways out of the rules' sight till it is known. -/
def brK (q : Bool) (D : Prop × Prop) : Prop := Br q D.1 D.2
def Two (p : Prop) (A B : Prop) : Prop := (p → A) ∧ (¬ p → B)
theorem brK_true [D : Cn (Prop × Prop)] : Go1 (brK true) = D.go.1 := by simp [Go1, brK, Br]
theorem brK_false [D : Cn (Prop × Prop)] : Go1 (brK false) = D.go.2 := by simp [Go1, brK, Br]
theorem brK_not (q : Bool) [D : Cn (Prop × Prop)] : Go1 (brK (!q)) = @Go1 _ (brK q) ⟨(D.go.2, D.go.1)⟩ := by cases q <;> simp [Go1, brK, Br]
theorem brK_sym (q : Bool) [D : Cn (Prop × Prop)] : Go1 (brK q) = Two (q = true) D.go.1 D.go.2 := by cases q <;> simp [Go1, brK, Br, Two]
theorem Two.mk {p A B : Prop} (h : p → A) (k : ¬ p → B) : Two p A B := ⟨h, k⟩
theorem brK_dec (p : Prop) [Decidable p] [D : Cn (Prop × Prop)] : Go1 (brK (decide p)) = Two p D.go.1 D.go.2 := by simp [Go1, brK, Br, Two]
def gs : List Oper → Nat → Option Nat
  | [], _ => none
  | o :: _, 0 => o.dst
  | _ :: l, n + 1 => gs l n
theorem gslot_list : ∀ (l : List Oper) (j : Nat), gslot l.toArray j = gs l j
  | [], j => by simp [gslot, gs]
  | o :: l, 0 => by simp [gslot, gs]
  | o :: l, j + 1 => by rw [gs, ← gslot_list l j]; simp [gslot]
theorem gs_zero (o : Oper) : gs (o :: l) 0 = o.dst := id rfl
theorem gs_succ (o : Oper) (n : Nat) : gs (o :: l) (n + 1) = gs l n := id rfl
/-- Operations under a guard: first the guard's slot, then what it holds, then the operation. -/
abbrev GD := Env × (Env → Prop) × (Env → Prop)
def guardV (t : Nat) (v : Value) (want : Bool) (D : GD) : Prop := match v with
  | .bool q => Br (q == want) (D.2.1 (D.1.upd t (.bool want))) (D.2.2 (D.1.upd t (.bool (!want))))
  | .tuple _ => D.2.2 D.1
  | _ => False
def guardO (t : Option Nat) (want : Bool) (D : GD) : Prop := match t with
  | none => False
  | some t => guardV t (D.1 t) want D
theorem guardO_some (t : Nat) (want : Bool) [D : Cn GD] : Go1 (guardO (some t) want) = Go1 (guardV t (D.go.1 t) want) := id rfl
theorem guardV_bool (t : Nat) (q want : Bool) [D : Cn GD] : Go1 (guardV t (.bool q) want) = @Go1 _ (brK (q == want)) ⟨(D.go.2.1 (D.go.1.upd t (.bool want)), D.go.2.2 (D.go.1.upd t (.bool (!want))))⟩ := id rfl
theorem guardV_undef (t : Nat) (want : Bool) [D : Cn GD] : Go1 (guardV t undef want) = D.go.2.2 D.go.1 := id rfl
theorem guardV_tuple (t : Nat) (vs : Array Value) (want : Bool) [D : Cn GD] : Go1 (guardV t (.tuple vs) want) = D.go.2.2 D.go.1 := id rfl
theorem aops_nil : aops P ops [] ρ h N = N ρ h := id rfl
theorem aops_plain : aops P ops (⟨d, op, ty, pos, af, none⟩ :: l) ρ h N = astep P op ρ h fun v h' => aops P ops l (ρ.put d v) h' N := id rfl
theorem aops_guard (j : Nat) (want : Bool) : aops P ops (⟨d, op, ty, pos, af, some (j, want)⟩ :: l) ρ h N =
    @Go1 _ (guardO (gslot ops j) want) ⟨(ρ, (fun ρ => astep P op ρ h fun v h' => aops P ops l (ρ.put d v) h' N), (fun ρ => aops P ops l (ρ.put d undef) h N))⟩ := by
  unfold Go1 guardO guardV
  rw [aops]
  dsimp only
  cases gslot ops j with
  | none => rfl
  | some t => cases ht : ρ t <;> simp only [ht]
theorem aopsQ_nil (C : Env → Prop) : aopsQ P ops h [] ρ C = C ρ := id rfl
theorem aopsQ_plain (C : Env → Prop) : aopsQ P ops h (⟨d, op, ty, pos, af, none⟩ :: l) ρ C = aqstep P op ρ h fun v => aopsQ P ops h l (ρ.put d v) C := id rfl
theorem aopsQ_guard (C : Env → Prop) (j : Nat) (want : Bool) : aopsQ P ops h (⟨d, op, ty, pos, af, some (j, want)⟩ :: l) ρ C =
    @Go1 _ (guardO (gslot ops j) want) ⟨(ρ, (fun ρ => aqstep P op ρ h fun v => aopsQ P ops h l (ρ.put d v) C), (fun ρ => aopsQ P ops h l (ρ.put d undef) C))⟩ := by
  unfold Go1 guardO guardV
  rw [aopsQ]
  dsimp only
  cases gslot ops j with
  | none => rfl
  | some t => cases ht : ρ t <;> simp only [ht]
theorem avc_skip : avc P .skip N R X ρ h = N ρ h := id rfl
theorem avc_region (id' : Nat) : avc P (.region id' l.toArray false) N R X ρ h = aops P l.toArray l ρ h N := id rfl
/-- A region that draws: its order does not matter. -/
def Draw (P : Program) (D : List Oper × Prop × Prop × Prop) : Prop := (Region.lexB .any D.1.toArray = true ∧ D.2.1) ∨ (swapB P D.1.toArray = true ∧ D.2.2.1) ∨ D.2.2.2
theorem avc_draw (id' : Nat) : avc P (.region id' l.toArray true) N R X ρ h = @Go1 _ (Draw P) ⟨(l, aopsQ P l.toArray h l ρ fun ρ' => ∀ n, h.n ≤ n → N ρ' (h.to n), aops P l.toArray l ρ h N, AnyI P l.toArray ρ h N)⟩ := id rfl
theorem Draw.quiet {P : Program} {D : Cn (List Oper × Prop × Prop × Prop)} (h : Region.lexB .any D.go.1.toArray = true) (k : D.go.2.1) : @Go1 _ (Draw P) D := .inl ⟨h, k⟩
theorem Draw.swap {P : Program} {D : Cn (List Oper × Prop × Prop × Prop)} (h : swapB P D.go.1.toArray = true) (k : D.go.2.2.1) : @Go1 _ (Draw P) D := .inr (.inl ⟨h, k⟩)
theorem Draw.any {P : Program} {D : Cn (List Oper × Prop × Prop × Prop)} (k : D.go.2.2.2) : @Go1 _ (Draw P) D := .inr (.inr k)
theorem avc_seq (a b : Code) : avc P (.seq a b) N R X ρ h = avc P a (fun ρ' h' => avc P b N R X ρ' h') R X ρ h := id rfl
def condK (v : Value) (D : Prop × Prop) : Prop := match v with
  | .bool q => Br q D.1 D.2
  | _ => False
theorem condK_bool (q : Bool) [D : Cn (Prop × Prop)] : Go1 (condK (.bool q)) = Go1 (brK q) := id rfl
theorem avc_cond (c : Operand) (a b : Code) : avc P (.cond c a b) N R X ρ h = @Go1 _ (condK (ρ.ev c)) ⟨(avc P a N R X ρ h, avc P b N R X ρ h)⟩ := id rfl
theorem avc_block (id' : Nat) (c : Code) : avc P (.block id' c) N R X ρ h = avc P c N R (fun i ρ' h' => if i = id' then N ρ' h' else X i ρ' h') ρ h := id rfl
/-- A loop: its body, its slots and the frame are out of the rules' sight. -/
abbrev LD := (EH → EH) × List Nat × Env
def LoopI (h : Hp) (D : LD) : Prop := LoopG D.1 D.2.1 D.2.2 h
theorem avc_loop (c : Code) : avc P (.loop c) N R X ρ h = @Go1 _ (LoopI h) ⟨((fun N' ρ' h' => avc P c N' R X ρ' h'), codeDsts c, ρ)⟩ := id rfl
theorem avc_exit (i : Nat) : avc P (.exit i) N R X ρ h = X i ρ h := id rfl
theorem avc_ret : avc P .ret N R X ρ h = R ρ h := id rfl
theorem beq_t (q : Bool) : (q == true) = q := by cases q <;> rfl
theorem beq_f (q : Bool) : (q == false) = !q := by cases q <;> rfl
theorem st_move (x : Operand) : astep P (.move x) ρ h K = K (ρ.ev x) h := id rfl
theorem st_assign (x : Operand) : astep P (.assign x) ρ h K = K (ρ.ev x) h := id rfl
def pickK (v a b : Value) (C : Value → Prop) : Prop := match v with
  | .bool q => C (if q = true then a else b)
  | _ => False
theorem pickK_true (a b : Value) [C : CV] : Go1 (pickK (.bool true) a b) = C.go a := id rfl
theorem pickK_false (a b : Value) [C : CV] : Go1 (pickK (.bool false) a b) = C.go b := id rfl
theorem pickK_and (q : Bool) (x : Bool) [C : CV] : Go1 (pickK (.bool q) (.bool x) (.bool false)) = C.go (.bool (q && x)) := by cases q <;> rfl
theorem st_pick (c a b : Operand) : astep P (.pick c a b) ρ h K = @Go1 _ (pickK (ρ.ev c) (ρ.ev a) (ρ.ev b)) ⟨fun v => K v h⟩ := id rfl
def buildK (r : Option (Array Value)) (C : Value → Prop) : Prop := match r with
  | some r => C (.agg r)
  | none => False
theorem buildK_some (r : Array Value) [C : CV] : Go1 (buildK (some r)) = C.go (.agg r) := id rfl
theorem st_build (t : TypeId) (ps : Array (Nat × Operand)) : astep P (.build t ps) ρ h K = @Go1 _ (buildK (tyBuild P t (ps.toList.map fun x => (x.1, ρ.ev x.2)))) ⟨fun v => K v h⟩ := id rfl
theorem st_load (t : TypeId) (a : Operand) : astep P (.load t a) ρ h K = @Go1 _ (aload P t (ρ.ev a) h) ⟨fun v => K v h⟩ := id rfl
def nilK (v : Value) (C : Value → Prop) : Prop := match v with
  | .pointer (some a) => C (.pointer (some a))
  | .func (.func f) a b => C (.func (.func f) a b)
  | _ => False
theorem nilK_ptr (a : Addr) [C : CV] : Go1 (nilK (.pointer (some a))) = C.go (.pointer (some a)) := id rfl
theorem nilK_fun (f : FuncId) (a b : Array Value) [C : CV] : Go1 (nilK (.func (.func f) a b)) = C.go (.func (.func f) a b) := id rfl
theorem st_nil (x : Operand) : astep P (.nilCheck x) ρ h K = @Go1 _ (nilK (ρ.ev x)) ⟨fun v => K v h⟩ := id rfl
theorem bH_int (o : BinOp) (t : TypeId) (k k' : IntKind) (a b : Int) : abinH P o t (.int k a) (.int k' b) h = abin P o t (.int k a) (.int k' b) := id rfl
theorem bH_str (o : BinOp) (t : TypeId) (a b : ByteArray) : abinH P o t (.string a) (.string b) h = abin P o t (.string a) (.string b) := id rfl
theorem bH_bool (o : BinOp) (t : TypeId) (a b : Bool) : abinH P o t (.bool a) (.bool b) h = abin P o t (.bool a) (.bool b) := id rfl
theorem bH_nil (o : BinOp) (t : TypeId) (a : Option Addr) : abinH P o t (.pointer a) (.pointer none) h = abin P o t (.pointer a) (.pointer none) := by cases a <;> rfl
theorem bH_sl (o : BinOp) (t : TypeId) (a b : Option Addr) (n c m d : Nat) : abinH P o t (.slice a n c) (.slice b m d) h = abin P o t (.slice a n c) (.slice b m d) := id rfl
theorem bH_agg (o : BinOp) (t : TypeId) (a b : Array Value) : abinH P o t (.agg a) (.agg b) h = abin P o t (.agg a) (.agg b) := id rfl
attribute [go_sem] bH_int bH_str bH_bool bH_nil bH_sl bH_agg
theorem st_bin (o : BinOp) (t t' : TypeId) (x y : Operand) : astep P (.binOp o t x y t') ρ h K = @Go1 _ (abinH P o t (ρ.ev x) (ρ.ev y) h) ⟨fun v => K v h⟩ := id rfl
theorem st_un (o : UnOp) (t : TypeId) (x : Operand) : astep P (.unOp o t x) ρ h K = @Go1 _ (aun o (ρ.ev x)) ⟨fun v => K v h⟩ := id rfl
theorem st_makeFunc (fn : Fn) (a b : Array Operand) : astep P (.makeFunc fn a b) ρ h K = K (.func fn (a.map ρ.ev) (b.map ρ.ev)) h := id rfl
theorem st_slice (t : TypeId) (x : Operand) (lo hi mx : Option Operand) : astep P (.slice t x lo hi mx) ρ h K = @Go1 _ (aslice P t (ρ.ev x) (lo.map ρ.ev) (hi.map ρ.ev) (mx.map ρ.ev)) ⟨fun v => K v h⟩ := id rfl
theorem st_fieldAddr (s : TypeId) (x : Operand) (i : Nat) : astep P (.fieldAddr s x i) ρ h K = @Go1 _ (afieldAddr P s (ρ.ev x) i) ⟨fun v => K v h⟩ := id rfl
theorem st_field (s : TypeId) (x : Operand) (i : Nat) : astep P (.field s x i) ρ h K = @Go1 _ (afield P s (ρ.ev x) i) ⟨fun v => K v h⟩ := id rfl
theorem st_indexAddr (t : TypeId) (x i : Operand) : astep P (.indexAddr t x i) ρ h K = @Go1 _ (aindexAddr P t (ρ.ev x) (ρ.ev i)) ⟨fun v => K v h⟩ := id rfl
theorem st_index (t : TypeId) (x i : Operand) : astep P (.index t x i) ρ h K = @Go1 _ (aindex P t (ρ.ev x) (ρ.ev i)) ⟨fun v => K v h⟩ := id rfl
theorem st_extract (x : Operand) (i : Nat) : astep P (.extract x i) ρ h K = @Go1 _ (aextract (ρ.ev x) i) ⟨fun v => K v h⟩ := id rfl
theorem st_lookup (t : TypeId) (m k : Operand) (ok : Bool) : astep P (.lookup t m k ok) ρ h K = @Go1 _ (optK (lookupR P t (ρ.ev m) (ρ.ev k) ok h)) ⟨fun v => K v h⟩ := id rfl
theorem qs_lookup (t : TypeId) (m k : Operand) (ok : Bool) : aqstep P (.lookup t m k ok) ρ h C = @Go1 _ (optK (lookupR P t (ρ.ev m) (ρ.ev k) ok h)) ⟨C⟩ := id rfl
def optH (r : Option Hp) (K : KH) : Prop := match r with
  | some h => K undef h
  | none => False
theorem optH_some (g : Hp) [K : CH] : Go1 (optH (some g)) = K.go undef g := id rfl
theorem st_makeMap (t : TypeId) : astep P (.makeMap t none) ρ h K = K (.map (some h.n)) ((h.put h.n (.map #[] 0)).to (h.n + 1)) := id rfl
theorem st_mapUpd (t : TypeId) (m k x : Operand) : astep P (.mapUpdate t m k x) ρ h K = @Go1 _ (optH (mapUpdR P t (ρ.ev m) (ρ.ev k) (ρ.ev x) h)) ⟨K⟩ := id rfl
theorem st_insert (t : TypeId) (m k x : Operand) : astep P (.insert t m k x) ρ h K = @Go1 _ (optH (mapUpdR P t (ρ.ev m) (ρ.ev k) (ρ.ev x) h)) ⟨K⟩ := id rfl
def mapO (o : Option Obj) : Option (List MapEntry × Nat) := match o with
  | some (.map es cl) => some (es.toList, cl)
  | _ => none
theorem mapO_map (es : Array MapEntry) (cl : Nat) : mapO (some (.map es cl)) = some (es.toList, cl) := rfl
theorem mapRow_eq (r : Nat) : mapRow h (.map (some r)) = (mapO (h.f r)).map (·.1) := by
  simp only [mapRow, mapO]
  generalize h.f r = o
  cases o with
  | none => rfl
  | some o => cases o <;> rfl
theorem mapUpdR_eq (t : TypeId) (r : Nat) (k v : Value) : mapUpdR P t (.map (some r)) k v h = (mapO (h.f r)).bind fun q => (mapKind P t).bind fun x => (mfind x.2.1 k q.1 0).map fun z => h.put r (putEs k v q.1 q.2 z) := by
  simp only [mapUpdR, mapO]
  generalize h.f r = o
  cases o with
  | none => rfl
  | some o => cases o <;> rfl
theorem mfind_nil (kd : TypeDesc) (k : Value) (i : Nat) : mfind kd k [] i = some none := rfl
def pickF (q : Option Bool) (a b : Option (Option (Nat × Value))) : Option (Option (Nat × Value)) := match q with
  | some true => a
  | some false => b
  | none => none
theorem pickF_t (a b : Option (Option (Nat × Value))) : pickF (some true) a b = a := rfl
theorem pickF_f (a b : Option (Option (Nat × Value))) : pickF (some false) a b = b := rfl
theorem mfind_cons (kd : TypeDesc) (k : Value) (i : Nat) (e : MapEntry) (es : List MapEntry) : mfind kd k (e :: es) i = pickF (Instr.sameNow kd k e.key) (some (some (i, e.val))) (mfind kd k es (i + 1)) := by
  simp only [mfind, pickF]
  cases Instr.sameNow kd k e.key with
  | none => rfl
  | some q => cases q <;> rfl
theorem same_int (k : IntKind) (a b : Int) (kk : IntKind) : Instr.sameNow (.int kk) (.int k a) (.int k b) = some (decide (a = b)) := by
  simp [Instr.sameNow]
  by_cases h : a = b <;> simp [h]
theorem same_str (a b : ByteArray) : Instr.sameNow .string (.string a) (.string b) = some (a == b) := rfl
theorem st_len (t : TypeId) (x : Operand) : astep P (.call ⟨.builtin .len, #[x], #[t]⟩) ρ h K = @Go1 _ (alen P t (ρ.ev x) h) ⟨fun v => K v h⟩ := id rfl
theorem st_min (ts : Array TypeId) (x y : Operand) : astep P (.call ⟨.builtin .min, #[x, y], ts⟩) ρ h K = @Go1 _ (aminmax false (ρ.ev x) (ρ.ev y)) ⟨fun v => K v h⟩ := id rfl
theorem st_max (ts : Array TypeId) (x y : Operand) : astep P (.call ⟨.builtin .max, #[x, y], ts⟩) ρ h K = @Go1 _ (aminmax true (ρ.ev x) (ρ.ev y)) ⟨fun v => K v h⟩ := id rfl
theorem st_alloc (e : TypeId) : astep P (.alloc e) ρ h K = @Go1 _ (optK (tyZero P e)) ⟨fun z => K (.pointer (some ⟨h.n, 0, none⟩)) ((h.put h.n (.cells z.cells e (0, 0))).to (h.n + 1))⟩ := by
  show aalloc P e h K = _
  simp only [aalloc, Go1, optK]
  cases tyZero P e <;> rfl
theorem st_box (e : TypeId) (x : Operand) : astep P (.box e x) ρ h K = K (.pointer (some ⟨h.n, 0, none⟩)) ((h.put h.n (.cells (ρ.ev x).cells e (0, 0))).to (h.n + 1)) := id rfl
def buildSK (r : Option (TypeId × Array Value)) (len : Nat) (h : Hp) (K : KH) : Prop := match r with
  | some (e, r) => K (.slice (some ⟨h.n, 0, none⟩) len len) ((h.put h.n (.cells r e (0, 0))).to (h.n + 1))
  | none => False
theorem buildSK_some (e : TypeId) (r : Array Value) (n : Nat) [K : CH] : Go1 (buildSK (some (e, r)) n h) = K.go (.slice (some ⟨h.n, 0, none⟩) n n) ((h.put h.n (.cells r e (0, 0))).to (h.n + 1)) := id rfl
theorem st_buildSlice (t : TypeId) (n : Nat) (ps : Array (Nat × Operand)) : astep P (.buildSlice t n ps) ρ h K = @Go1 _ (buildSK (tyBuildSlice P t n (ps.toList.map fun x => (x.1, ρ.ev x.2))) n h) ⟨K⟩ := by
  show (match tyBuildSlice P t n (ps.toList.map fun x => (x.1, ρ.ev x.2)) with
    | some (e, r) => K (.slice (some ⟨h.n, 0, none⟩) n n) ((h.put h.n (.cells r e (0, 0))).to (h.n + 1))
    | none => False) = _
  unfold Go1 buildSK
  generalize tyBuildSlice P t n (ps.toList.map fun x => (x.1, ρ.ev x.2)) = r
  cases r <;> rfl
theorem st_store (t : TypeId) (a x : Operand) : astep P (.store t a x) ρ h K = @Go1 _ (astore P t (ρ.ev a) (ρ.ev x) h) ⟨K⟩ := id rfl
theorem st_convert (s t : TypeId) (x : Operand) : astep P (.convert s t x) ρ h K = @Go1 _ (aconv P s t (ρ.ev x) h) ⟨K⟩ := id rfl
theorem st_make (t : TypeId) (x y : Operand) : astep P (.makeSlice t x y) ρ h K = @Go1 _ (amake P t (ρ.ev x) (ρ.ev y) h) ⟨K⟩ := id rfl
def appW (P : Program) (t u : TypeId) (s x : Value) (h : Hp) (K : KH) : Prop := aappend P t u s x h (Weak K)
theorem st_append (t u : TypeId) (s x : Operand) : astep P (.call ⟨.builtin .append, #[s, x], #[t, u]⟩) ρ h K = @Go1 _ (appW P t u (ρ.ev s) (ρ.ev x) h) ⟨K⟩ := id rfl
theorem st_copy (t u : TypeId) (s x : Operand) : astep P (.call ⟨.builtin .copy, #[s, x], #[t, u]⟩) ρ h K = @Go1 _ (acopy P t (ρ.ev s) (ρ.ev x) h) ⟨K⟩ := id rfl
theorem st_call (f : Operand) (args : Array Operand) (ts : Array TypeId) : astep P (.call ⟨.value f, args, ts⟩) ρ h K = @Go1 _ (acall P (ρ.ev f) (args.map ρ.ev) h) ⟨K⟩ := id rfl
theorem qs_call (f : Operand) (args : Array Operand) (ts : Array TypeId) : aqstep P (.call ⟨.value f, args, ts⟩) ρ h C = @Go1 _ (qcall P (ρ.ev f) (args.map ρ.ev) h) ⟨C⟩ := id rfl
theorem qs_move (x : Operand) : aqstep P (.move x) ρ h C = C (ρ.ev x) := id rfl
theorem qs_assign (x : Operand) : aqstep P (.assign x) ρ h C = C (ρ.ev x) := id rfl
theorem qs_pick (c a b : Operand) : aqstep P (.pick c a b) ρ h C = @Go1 _ (pickK (ρ.ev c) (ρ.ev a) (ρ.ev b)) ⟨C⟩ := id rfl
theorem qs_build (t : TypeId) (ps : Array (Nat × Operand)) : aqstep P (.build t ps) ρ h C = @Go1 _ (buildK (tyBuild P t (ps.toList.map fun x => (x.1, ρ.ev x.2)))) ⟨C⟩ := id rfl
theorem qs_load (t : TypeId) (a : Operand) : aqstep P (.load t a) ρ h C = @Go1 _ (aload P t (ρ.ev a) h) ⟨C⟩ := id rfl
theorem qs_nil (x : Operand) : aqstep P (.nilCheck x) ρ h C = @Go1 _ (nilK (ρ.ev x)) ⟨C⟩ := id rfl
theorem qs_bin (o : BinOp) (t t' : TypeId) (x y : Operand) : aqstep P (.binOp o t x y t') ρ h C = @Go1 _ (abinH P o t (ρ.ev x) (ρ.ev y) h) ⟨C⟩ := id rfl
theorem qs_un (o : UnOp) (t : TypeId) (x : Operand) : aqstep P (.unOp o t x) ρ h C = @Go1 _ (aun o (ρ.ev x)) ⟨C⟩ := id rfl
theorem qs_makeFunc (fn : Fn) (a b : Array Operand) : aqstep P (.makeFunc fn a b) ρ h C = C (.func fn (a.map ρ.ev) (b.map ρ.ev)) := id rfl
theorem qs_slice (t : TypeId) (x : Operand) (lo hi mx : Option Operand) : aqstep P (.slice t x lo hi mx) ρ h C = @Go1 _ (aslice P t (ρ.ev x) (lo.map ρ.ev) (hi.map ρ.ev) (mx.map ρ.ev)) ⟨C⟩ := id rfl
theorem qs_fieldAddr (s : TypeId) (x : Operand) (i : Nat) : aqstep P (.fieldAddr s x i) ρ h C = @Go1 _ (afieldAddr P s (ρ.ev x) i) ⟨C⟩ := id rfl
theorem qs_field (s : TypeId) (x : Operand) (i : Nat) : aqstep P (.field s x i) ρ h C = @Go1 _ (afield P s (ρ.ev x) i) ⟨C⟩ := id rfl
theorem qs_indexAddr (t : TypeId) (x i : Operand) : aqstep P (.indexAddr t x i) ρ h C = @Go1 _ (aindexAddr P t (ρ.ev x) (ρ.ev i)) ⟨C⟩ := id rfl
theorem qs_index (t : TypeId) (x i : Operand) : aqstep P (.index t x i) ρ h C = @Go1 _ (aindex P t (ρ.ev x) (ρ.ev i)) ⟨C⟩ := id rfl
theorem qs_extract (x : Operand) (i : Nat) : aqstep P (.extract x i) ρ h C = @Go1 _ (aextract (ρ.ev x) i) ⟨C⟩ := id rfl
theorem qs_len (t : TypeId) (x : Operand) : aqstep P (.call ⟨.builtin .len, #[x], #[t]⟩) ρ h C = @Go1 _ (alen P t (ρ.ev x) h) ⟨C⟩ := id rfl
theorem qs_min (ts : Array TypeId) (x y : Operand) : aqstep P (.call ⟨.builtin .min, #[x, y], ts⟩) ρ h C = @Go1 _ (aminmax false (ρ.ev x) (ρ.ev y)) ⟨C⟩ := id rfl
theorem qs_max (ts : Array TypeId) (x y : Operand) : aqstep P (.call ⟨.builtin .max, #[x, y], ts⟩) ρ h C = @Go1 _ (aminmax true (ρ.ev x) (ρ.ev y)) ⟨C⟩ := id rfl
theorem qs_convert (s t : TypeId) (x : Operand) : aqstep P (.convert s t x) ρ h C = @Go1 _ (qconv P s t (ρ.ev x) h) ⟨C⟩ := id rfl
theorem re_0 : resK P [] [] ρ h K = Fin K (.tuple #[]) h := id rfl
theorem re_1 (t : Nat) : resK P [.tmp t] [] ρ h K = Fin K (ρ t) h := id rfl
theorem re_2 (t u : Nat) : resK P [.tmp t, .tmp u] [] ρ h K = Fin K (.tuple #[ρ t, ρ u]) h := id rfl
theorem re_3 (t u v : Nat) : resK P [.tmp t, .tmp u, .tmp v] [] ρ h K = Fin K (.tuple #[ρ t, ρ u, ρ v]) h := id rfl
theorem en_nil (k : Nat) : entryEnv [] k = fun _ => undef := id rfl
theorem en_cons (v : Value) (vs : List Value) (k : Nat) : entryEnv (v :: vs) k = (entryEnv vs (k + 1)).upd k v := id rfl
theorem upd_lit (v : Value) (d t : Nat) (h : (t == d) = false) : ρ.upd d v t = ρ t := upd_ne ρ d v t (by simpa using h)
end
attribute [go_sem ↓] upd_same upd_lit put_some put_none ev_tmp ev_const ev_func ev_global
attribute [go_sem ↓] aops_nil aops_plain aops_guard aopsQ_nil aopsQ_plain aopsQ_guard guardV_undef avc_skip avc_region avc_draw avc_seq avc_cond avc_block avc_loop avc_exit avc_ret
attribute [go_sem ↓] st_move st_assign st_pick st_build st_load st_nil st_bin st_un st_makeFunc st_slice st_fieldAddr st_field st_indexAddr st_index st_extract st_len st_min st_max st_alloc st_box st_buildSlice st_store st_convert st_make st_append st_copy st_call qs_call
attribute [go_sem ↓] qs_move qs_assign qs_pick qs_build qs_load qs_nil qs_bin qs_un qs_makeFunc qs_slice qs_fieldAddr qs_field qs_indexAddr qs_index qs_extract qs_len qs_min qs_max qs_convert re_0 re_1 re_2 re_3 en_nil en_cons
attribute [go_sem] guardO_some guardV_bool guardV_undef guardV_tuple brK_true brK_false brK_not brK_dec condK_bool pickK_true pickK_false buildK_some nilK_ptr nilK_fun buildSK_some
attribute [go_sem] i_ab_add i_ab_sub i_ab_mul i_ab_quo i_ab_rem i_ab_and i_ab_or i_ab_xor i_ab_andNot i_ab_shl i_ab_shr i_ab_eql i_ab_neq i_ab_lss i_ab_leq i_ab_gtr i_ab_geq i_ab_sadd i_ab_seql i_ab_sneq i_ab_slss i_ab_sleq i_ab_sgtr i_ab_sgeq i_ab_beql i_ab_bneq i_ab_peql i_ab_pneq i_ab_sleql i_ab_slneq i_au_not i_au_neg i_au_xor i_le_str i_le_sl i_le_arr i_mm_min i_mm_max i_cv_int i_cvq_int i_cv_bytes i_optK i_optL i_optS i_optB i_optN i_cellK i_aggK i_strK i_stK i_acall i_qcall i_ld_cell i_ld_agg i_sto i_fa_ptr i_f_agg i_part_f i_part_t i_ia_sl i_ia_arr i_ix_arr i_ix_str i_ex_tuple i_sliceK_str i_sliceK_sl i_sl_str i_sl_sl i_sl_sl3 i_mk_slice i_cv_str
attribute [go_sem] bnd_none bnd_int gslot_list gs_zero gs_succ beq_t beq_f put_n to_n to_f to_put to_to put_f_same isSl isArr isPtr isInt elT arrN intK tyBuild tyBuildSlice fillP structPlaces writeL cellsL copies bytesOf
attribute [go_sem ↓] st_lookup qs_lookup st_makeMap st_mapUpd st_insert
attribute [go_sem] optH_some mapO_map mapRow_eq mapUpdR_eq mfind_nil pickF_t pickF_f mfind_cons same_int same_str lookupR found putEs chg
attribute [go_sem low] brK_sym
attribute [go_sem] Bool.not_not true_or or_true false_or or_false Nat.le_refl Nat.zero_le put_put List.set_cons_zero if_true if_false Int.le_refl
attribute [go_sem] Bool.not_true Bool.not_false List.map_cons List.map_nil List.map_toArray List.append_toArray List.nil_append List.cons_append List.append_nil Option.map_some Option.map_none Option.isSome_some Option.isSome_none Option.isNone_some Option.isNone_none
attribute [go_sem] List.getElem?_toArray List.getElem?_cons_zero List.getElem?_cons_succ Option.bind_some Value.cells List.size_toArray List.length_cons List.length_nil List.all_cons List.all_nil Value.oneCell' Bool.and_true Bool.true_and true_and and_true eq_self List.setIfInBounds_toArray List.set_cons_zero List.set_cons_succ
/-- A call of a Go function out of what its code is reckoned to. -/
theorem go_of {P : Program} (hm : P.follows .mixedOrders = true) {f : FuncId} {fn : Func} {c : Code} (hf : P.funcs[f]? = some fn) (hb : fn.body = some c) {n : Nat} (hn : fn.ntmps = n) {rs : Array ResultVar} (hr : fn.results = rs)
    (hc : isCall P f = true) (hok : ((codeDsts c).all fun t => decide (t < n)) = true) {args : Array Value} (hl : args.size ≤ n) {h : Hp} [K : CH]
    (hk : Wf h → avc P c (fun ρ g => resK P rs.toList [] ρ g K.go) (fun ρ g => resK P rs.toList [] ρ g K.go) (fun _ _ _ => False) (entryEnv args.toList 0) h) : Go1 (CallF P f args h) :=
  ⟨hc, callG_of hm hf hb hn hr hok hl hk⟩
/-- A contract whose value does not hang on how many blocks there are serves in a region that draws. -/
theorem QC.of {P : Program} {f : FuncId} {args : Array Value} {h : Hp} (v : Value) [C : CV] (hc : ∀ (n : Nat), h.n ≤ n → ∀ [K : CH], (∀ k, n ≤ k → K.go v (h.to k)) → Go1 (CallF P f args (h.to n))) (hv : C.go v) : Go1 (QC P f args h) :=
  ⟨v, ⟨(hc h.n (Nat.le_refl _) (K := ⟨fun _ _ => True⟩) (fun _ _ => trivial)).1, fun n hn => (hc n hn (K := ⟨fun u g => u = v ∧ ∃ k, n ≤ k ∧ g = h.to k⟩) fun k hk => ⟨rfl, k, hk, rfl⟩).2⟩, hv⟩
/-- A loop: what holds at the head of each round, and what each round lowers. -/
theorem LoopI.rule {h : Hp} {D : Cn LD} (ds : List Nat) (hds : (D.go.2.1.all fun t => ds.contains t) = true) (I : EH) (μ : Env → Hp → Nat) (h0 : I D.go.2.2 h)
    (hstep : ∀ ρ' h', I ρ' h' → Wf h' → (∀ t, ds.contains t = false → ρ' t = D.go.2.2 t) → D.go.1 (fun ρ2 h2 => ∃ g, Sub g h2 ∧ I ρ2 g ∧ μ ρ2 g < μ ρ' h') ρ' h') : @Go1 _ (LoopI h) D :=
  ⟨I, μ, h0, fun ρ' h' hI hw hk => hstep ρ' h' hI hw fun t ht => hk t (by
    cases e : D.go.2.1.contains t with
    | false => rfl
    | true =>
      have := List.all_eq_true.1 hds t (by simpa using e)
      rw [this] at ht; cases ht)⟩
def eqK (op : BinOp) (r : Option Bool) (C : Value → Prop) : Prop := match op, r with
  | .eql, some q => C (.bool q)
  | .neq, some q => C (.bool (!q))
  | _, _ => False
theorem i_ab_agg (P : Program) (op : BinOp) (t : TypeId) (xs ys : Array Value) [C : CV] : Go1 (abin P op t (.agg xs) (.agg ys)) = Go1 (eqK op (aggEq P t xs ys)) := id rfl
theorem eqK_eql (q : Bool) [C : CV] : Go1 (eqK .eql (some q)) = C.go (.bool q) := id rfl
theorem eqK_neq (q : Bool) [C : CV] : Go1 (eqK .neq (some q)) = C.go (.bool (!q)) := id rfl
attribute [go_sem] i_ab_agg eqK_eql eqK_neq aggEq planEq
theorem wrap_i64_of {x : Int} (h1 : -9223372036854775808 ≤ x) (h2 : x ≤ 9223372036854775807) : IntKind.i64.wrap x = x := by
  rw [IntKind.wrap_i64]; omega
end Go.Proofs.Ytaejmcgcfopmkaa
